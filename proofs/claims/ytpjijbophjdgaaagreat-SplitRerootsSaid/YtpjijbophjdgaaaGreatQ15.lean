/- The contract of layer 31's reference's least. Rose trees appended to a tree that is numbered depth first. The contract of layer 31's reference's with and number. The contract of layer 31's reference's number. The contract of layer 31's reference's children. The contract of layer 31's reference's grow: the rose tree of a node. An append onto a slice without room, inside a region that draws its order; a node whose list of children is laid anew. Slices of a list of children. The contract of layer 31's reference's ordered. Names, as layer 1's and layer 31's references have them: Check, IsWord, IsName, named. -/
import Derived.Test.YtpjijbophjdgaaaGreatQ14
import Derived.Test.YtpjijbophjdgaaaGreatQ12
import Derived.Deep.CutRange
import Derived.Test.YtpjijbophjdgaaaGreatQ3
import Derived.Test.YtpjijbophjdgaaaGreatQ1
import Derived.ArgAppend
import Derived.Test.YtpjijbophjdgaaaGreatQ4
namespace Go.Proofs.YtpjijbophjdgaaaGreat
open Go.RowKit Go.Deep
end Go.Proofs.YtpjijbophjdgaaaGreat
namespace Go.Proofs.YtpjijbophjdgaaaGreat
end Go.Proofs.YtpjijbophjdgaaaGreat
namespace Go.Proofs.YtpjijbophjdgaaaGreat
open Go.RowKit Go.Deep
section
variable {tb B0 : Nat} {w W W' : World} {P N Pv Nv : Value} {ps : List Int} {ns : List ByteArray}
end
end Go.Proofs.YtpjijbophjdgaaaGreat
namespace Go.Proofs.YtpjijbophjdgaaaGreat
open Go.RowKit Go.Deep
end Go.Proofs.YtpjijbophjdgaaaGreat
namespace Go.Proofs.YtpjijbophjdgaaaGreat
open Go.RowKit Go.Deep
def KdPost (w : World) (l : List Nat) (e : Ending) (w' : World) : Prop := Below w.heap.size w w' ∧ ∃ v, e = .returned v ∧ IntsAt (fun b => w.heap.size ≤ b) w' v (ofNats l)
set_option maxRecDepth 100000 in
set_option maxHeartbeats 800000 in
theorem kidsR_t (S : Nat → Prop) (w : World) (v : Value) (t : Tre) (n : Nat) (h : TreeAt S w v t) (hp : t.ps.length ≤ 1000000) (hn : n < t.ps.length) :
    Calls Tryz.prog 117 #[v, .int .i64 n] w (KdPost w (kidsL t.ps n)) := by
  obtain ⟨P, N, rfl, hP, hN⟩ := h
  have hb0 : Below w.heap.size w (w.alloc (.cells #[P, N] 45)) := (Below.refl _ _).alloc (Nat.le_refl _) _
  have hP1 := hP.keep (Kept.below hb0)
  have hcp : (w.alloc (.cells #[P, N] 45)).cell? ⟨w.heap.size, 0, none⟩ = some P := by simp [World.cell?_alloc_new]
  obtain ⟨ps, ns⟩ := t
  simp only at *
  obtain ⟨p, cap, rfl, hcap, HP⟩ := SlAt.open hP1
  have hsz : (w.alloc (.cells #[.slice p ps.length cap, N] 45)).heap.size = w.heap.size + 1 := by simp
  have HS := Lib.hid hsz
  have HB0 := Lib.hid hb0
  have HCP := Lib.hid hcp
  have HPP := Lib.hid HP
  clear HP hP1 hP hN hb0 hcp hsz
  go_enter Tryz.func117, Tryz.ntmps117
  go_wp2_with fail
  generalize hw0 : w.alloc (.cells #[.slice p ps.length cap, N] 45) = w0 at *
  clear hw0
  go_loopw [5, 6] (fun v i wr => ∃ k : Nat, n + 1 ≤ k ∧ k ≤ ps.length ∧ i = .int .i64 k ∧ Owns (w.heap.size + 1) 3 wr v ((ofNats (kidsK ps n k)).map (Value.int .i64)) ∧ Below (w.heap.size + 1) w0 wr) (fun _ i _ => ps.length - (intOf i).toNat)
  case atStart => exact ⟨n + 1, Nat.le_refl _, by omega, by go_num, by rw [kidsK_start]; exact Owns.nil _ _ _, Below.refl _ _⟩
  case round =>
    obtain ⟨k, hk1, hk, rfl, hown, hbr⟩ := hrel
    have hcp : wr.cell? ⟨w.heap.size, 0, none⟩ = some (.slice p ps.length cap) := (hbr.cell (p := ⟨w.heap.size, 0, none⟩) (by simp)).trans HCP.out
    by_cases hlt : k < ps.length
    · obtain ⟨b, off, rfl, hc0⟩ := HPP.out k hlt
      have hc : wr.cell? ⟨b, off + k, none⟩ = some (.int .i64 (gi ps k)) := by
        rw [hbr.cell (p := ⟨b, off + k, none⟩) (by have := World.block_lt_of_cell? _ _ hc0; have := HS.out; simp at *; omega)]; exact hc0
      have hsz : w.heap.size + 1 ≤ wr.heap.size := by have := hbr.size; have := HS.out; omega
      have hsucc := kidsK_succ ps n k
      have HSU := Lib.hid hsucc
      have HLL : Hid (((ofNats (kidsK ps n k)).map (Value.int .i64)).length ≤ 1000000) := by
        have := kidsK_len ps n k
        unfold Hid ofNats; rw [List.length_map, List.length_map]; omega
      clear hc0 hsucc HPP
      generalize hgk : gi ps k = x at *
      clear hgk
      by_cases hx : x = n
      · have hx1 : (x == (n : Int)) = true := by simp [hx]
        have HX : Hid (n < k ∧ x = n) := ⟨by omega, hx⟩
        clear hx
        go_wp2_with (at_builtin; refine wpList_app1 wr rfl _ _ 26 rfl (w.heap.size + 1) 3 _ 8 Tryz.underlying26 Tryz.infoI rfl (by decide) hown rfl _ rfl rfl HLL.out hsz ?_; intro g cap w2 hown1 hg1 hb1)
        go_roundw
        case rel => exact ⟨k + 1, by omega, by omega, by go_num, by rw [HSU.out, if_pos HX.out, ofNats_append, List.map_append]; rw [List.length_map] at hown1; exact hown1, hbr.trans hb1⟩
        case measure => simp [intOf]; omega
      · have hx1 : (x == (n : Int)) = false := by simpa using hx
        have HX : Hid ¬ (n < k ∧ x = n) := fun h => hx h.2
        clear hx
        go_wp2_with fail
        go_roundw
        case rel => exact ⟨k + 1, by omega, by omega, by go_num, by rw [HSU.out, if_neg HX.out, List.append_nil]; exact hown, hbr⟩
        case measure => simp [intOf]; omega
    · obtain rfl : k = ps.length := by omega
      clear hlt hk
      go_wp2_with fail
      go_ret
      exact ⟨HB0.out.trans (hbr.mono (by omega)), _, rfl, hown.ints.sub fun b hb _ => by omega⟩
end Go.Proofs.YtpjijbophjdgaaaGreat
namespace Go.Proofs.YtpjijbophjdgaaaGreat
open Go.RowKit Go.Deep
theorem drew_up (w : World) : Up w w.drew := Up.drewN w 1
theorem ints_at {S : Nat → Prop} {w : World} {b off n cap : Nat} {xs : List Int} (h : IntsAt S w (.slice (some ⟨b, off, none⟩) n cap) xs) {k : Nat} (hk : k < xs.length) : w.cell? ⟨b, off + k, none⟩ = some (.int .i64 (gi xs k)) := by
  obtain ⟨b', o', e, hc⟩ := ints_get h hk
  injection e with e
  injection e with e1 e2
  subst e1; subst e2; exact hc
end Go.Proofs.YtpjijbophjdgaaaGreat
namespace Go.Proofs.YtpjijbophjdgaaaGreat
open Go.RowKit Go.Deep
section
variable {P : Program} {ops : Array Oper} {o : Oper} {a : Act} {w : World} {K : Act → World → Prop} {Q : Exit → Act → World → Prop} {E : Prop}
theorem step_appF (hgd : o.guard = none) (s x : Operand) (t : TypeId) (ho : o.op = .call { callee := .builtin .append, args := #[s, x], argTypes := #[t, t] })
    (e : TypeId) (z : Value) (bytes : Nat) (ht : P.underlying t = some (.slice e)) (hinfo : (P.info? e).map (fun i => (i.zero, i.size, i.bytes)) = some (some z, 1, bytes))
    (hz1 : z.cells.size = 1) (hb8 : bytes ≤ 64) {ao : Option Addr} {n : Nat} {olds : List Value} (hs : a.eval s = .slice ao n n) (hnone : ao = none → n = 0) (hlo : olds.length = n) (holds : ∀ b, ao = some b → ∀ j u, olds[j]? = some u → w.cell? (b.add j) = some u)
    {ad : Addr} {m c : Nat} {news : List Value} (hx : a.eval x = .slice (some ad) m c) (hl : news.length = m) (hnews : ∀ j u, news[j]? = some u → w.cell? (ad.add j) = some u) (h1 : ∀ u ∈ news, u.oneCell' = true) (hm : 0 < m) (hn : n + m ≤ 1000000)
    (h : ∀ g cap w', Owns w.heap.size e w' (.slice (some ⟨g, 0, none⟩) (n + m) cap) (olds ++ news) → Up w w' → K (a.put o.dst (.slice (some ⟨g, 0, none⟩) (n + m) cap)) w') :
    if Region.wanted o (yielded ops a.tmps) = true then Oper.wp P o a w K Q else E := by
  have hw : Region.wanted o (yielded ops a.tmps) = true := by simp [Region.wanted, hgd]
  rw [if_pos hw]
  obtain ⟨i, hi, hzz⟩ := Option.map_eq_some_iff.1 hinfo
  simp only [Prod.mk.injEq] at hzz
  obtain ⟨hz, hs1, hb⟩ := hzz
  have hb1 : n + m ≤ maxLen := by unfold maxLen; omega
  have hb2 : (n + m) * bytes ≤ 140737488355328 := by
    have : (n + m) * bytes ≤ (n + m) * 64 := Nat.mul_le_mul_left _ hb8
    omega
  have fin : ∀ v' w', w'.ownsRow w.heap.size e 1 v' (n + m) (olds ++ news) → w.grownBy w' none → K (a.put o.dst v') w' := fun v' w' r1 r2 => by
    have hlen : (olds ++ news).length = n + m := by rw [List.length_append, hlo, hl]
    have hown : Owns w.heap.size e w' v' (olds ++ news) := by unfold Owns; rw [hlen]; exact r1
    have hup : Up w w' := ⟨r2.os, r2.tape, r2.output, r2.size, fun b hb => r2.block b hb (fun e => by cases e)⟩
    obtain ⟨h2, h3 | ⟨g, c', cur, h3, _⟩⟩ := hown
    · omega
    · rw [hlen] at h3
      subst h3
      exact h g c' w' (by unfold Owns; rw [hlen]; exact r1) hup
  cases ao with
  | some b =>
    obtain ⟨v', w', hrun, r1, r2⟩ := run_append_arg_grows (P := P) w t o.type e i z 1 bytes ht hi hz hs1 hb hz1 (by omega) b n n olds (by omega) (holds b rfl) ad m c news (by omega) hnews (by omega) hb1 hb2
    unfold Oper.wp
    simp [execOp, ho, resolve, invoke, builtin, hs, hx, hrun, Result.andThen]
    exact fin v' w' r1 r2
  | none =>
    obtain rfl := hnone rfl
    obtain rfl : olds = [] := List.eq_nil_of_length_eq_zero hlo
    obtain ⟨v', w', hrun, r1, r2, _⟩ := run_append_own (P := P) w w.heap.size t o.type e i z 1 bytes ht hi hz hs1 hb hz1 (by omega) (.slice none 0 0) 0 [] (World.ownsRow_nil w _ e 1) ad m c news (by omega) hnews h1 hb1 hb2 (Nat.le_refl _)
    unfold Oper.wp
    simp [execOp, ho, resolve, invoke, builtin, hs, hx, hrun, Result.andThen]
    exact fin v' w' r1 r2
theorem step_app0 (hgd : o.guard = none) (s x : Operand) (t : TypeId) (ho : o.op = .call { callee := .builtin .append, args := #[s, x], argTypes := #[t, t] })
    (e : TypeId) (z : Value) (bytes : Nat) (ht : P.underlying t = some (.slice e)) (hinfo : (P.info? e).map (fun i => (i.zero, i.size, i.bytes)) = some (some z, 1, bytes))
    {ao : Option Addr} {n c : Nat} (hs : a.eval s = .slice ao n c) (hle : n ≤ c) {ad : Option Addr} {c2 : Nat} (hx : a.eval x = .slice ad 0 c2)
    (h : K (a.put o.dst (.slice ao n c)) w) : if Region.wanted o (yielded ops a.tmps) = true then Oper.wp P o a w K Q else E := by
  have hw : Region.wanted o (yielded ops a.tmps) = true := by simp [Region.wanted, hgd]
  rw [if_pos hw]
  obtain ⟨i, hi, hzz⟩ := Option.map_eq_some_iff.1 hinfo
  have hrun : (Builtin.append_ #[t, t] o.type #[.slice ao n c, .slice ad 0 c2]).run P w = .ok (.slice ao n c) w := by
    cases ao <;> cases ad <;> simp [Builtin.append_, run_underlying ht, sizeOf, typeInfo, hi, Builtin.lenOf, hle, Builtin.firstCells, storeCells, loadCells, loadCellsFrom]
  unfold Oper.wp
  simp [execOp, ho, resolve, invoke, builtin, hs, hx, hrun, Result.andThen]
  exact h
end
end Go.Proofs.YtpjijbophjdgaaaGreat
namespace Go.Proofs.YtpjijbophjdgaaaGreat
open Go.RowKit Go.Deep
end Go.Proofs.YtpjijbophjdgaaaGreat
namespace Go.Proofs.YtpjijbophjdgaaaGreat
open Go.RowKit Go.Deep
end Go.Proofs.YtpjijbophjdgaaaGreat
namespace Go.Proofs.YtpjijbophjdgaaaGreat
open Go.RowKit Go.Deep
def CkRPost (w : World) (s : ByteArray) (e : Ending) (w' : World) : Prop := Below w.heap.size w w' ∧ ∃ r, e = .returned (.int .i64 r) ∧ (s.data.toList.all aln = true → r = 0)
theorem all_at {s : ByteArray} (h : s.data.toList.all aln = true) {k : Nat} (hk : k < s.size) : aln s[k] = true :=
  List.all_eq_true.1 h _ (by rw [Array.mem_toList_iff]; exact Array.getElem_mem _)
set_option maxRecDepth 100000 in
set_option maxHeartbeats 400000 in
theorem ckR_t (s : ByteArray) (hs : s.size ≤ 1000) (w : World) : Calls Tryz.prog 234 #[.string s] w (CkRPost w s) := by
  go_enter Tryz.func234, Tryz.ntmps234
  go_wp2_with fail
  refine (right_t s hs _).mono ?_
  rintro e w1 ⟨hb, v, bs, rfl, hbl, hsl⟩
  obtain ⟨p, cap, rfl, hcap, H⟩ := hsl.open
  have HH := Lib.hid H
  clear H hsl hbl
  go_wp2_with fail
  go_loop [4, 5] (fun i _ => ∃ k : Nat, k ≤ s.size ∧ i = .int .i64 k) (fun i _ => s.size - (intOf i).toNat)
  case atStart => exact ⟨0, Nat.zero_le _, rfl⟩
  case round =>
    obtain ⟨k, hk, rfl⟩ := hrel
    by_cases hlt : k < s.size
    · obtain ⟨b, off, rfl, hc⟩ := HH.out k hlt
      have hka : s.data.toList.all aln = true → kindL s[k].toNat = 1 ∨ kindL s[k].toNat = 3 := fun h => (kind_aln s[k]).2 (all_at h hlt)
      have HKA := Lib.hid hka
      clear HH hka
      go_wp2_with (go_at_call 235; refine (kindR_t _ (UInt8.toNat_lt _) _).mono ?_; rintro e w' ⟨rfl, rfl⟩; generalize kindL _ = q at *)
      all_goals first | (go_round; (case rel => exact ⟨k + 1, by omega, by go_num⟩); (case measure => simp [intOf]; omega)) | (go_ret; exact ⟨hb, _, rfl, fun h => by have := HKA.out h; simp at *; omega⟩)
    · clear HH
      go_wp2_with fail
      go_ret
      exact ⟨hb, _, rfl, fun _ => rfl⟩
def IwPost (w : World) (s : ByteArray) (e : Ending) (w' : World) : Prop := Below w.heap.size w w' ∧ ∃ b, e = .returned (.bool b) ∧ (s.data.toList.all aln = true → 1 ≤ s.size → b = true) ∧ (s.size = 0 → b = false)
set_option maxRecDepth 100000 in
set_option maxHeartbeats 400000 in
theorem isWordR_t (s : ByteArray) (hs : s.size ≤ 16) (w : World) : Calls Tryz.prog 212 #[.string s] w (IwPost w s) := by
  by_cases h0 : s.size < 1
  · go_enter Tryz.func212, Tryz.ntmps212
    go_wp2_with fail
    go_ret
    exact ⟨Below.refl _ _, _, rfl, fun _ h => by omega, fun _ => rfl⟩
  · have h0' : ((0 : Nat) < s.size) := by omega
    have hka : s.data.toList.all aln = true → kindL s[0].toNat = 1 ∨ kindL s[0].toNat = 3 := fun h => (kind_aln s[0]).2 (all_at h h0')
    have HKA := Lib.hid hka
    clear hka
    go_enter Tryz.func212, Tryz.ntmps212
    go_wp2_with fail
    refine (ckR_t s (by omega) _).mono ?_
    rintro e w1 ⟨hb, r, rfl, hr⟩
    have HR := Lib.hid hr
    clear hr
    go_wp2_with (go_at_call 235; refine (kindR_t _ (UInt8.toNat_lt _) _).mono ?_; rintro e w' ⟨rfl, rfl⟩; generalize kindL _ = q at *)
    all_goals first
      | (go_ret; exact ⟨hb, _, rfl, fun h _ => (by exfalso; have h1 := HKA.out h; have h2 := HR.out h; subst h2; simp at *; omega), fun _ => rfl⟩)
      | skip
    all_goals
      clear HR
      go_loop [4] (fun i => ∃ k : Nat, k ≤ s.size ∧ i = .int .i64 k) (fun i => s.size - (intOf i).toNat)
      case atStart => exact ⟨0, Nat.zero_le _, rfl⟩
      case round =>
        obtain ⟨k, hk, rfl⟩ := hrel
        by_cases hlt : k < s.size
        · have hka : s.data.toList.all aln = true → kindL s[k].toNat = 1 ∨ kindL s[k].toNat = 3 := fun h => (kind_aln s[k]).2 (all_at h hlt)
          have HKB := Lib.hid hka
          clear hka
          go_wp2_with (go_at_call 235; refine (kindR_t _ (UInt8.toNat_lt _) _).mono ?_; rintro e w' ⟨rfl, rfl⟩; generalize kindL s[k].toNat = y at *)
          all_goals first | (go_round; (case rel => exact ⟨k + 1, by omega, by go_num⟩); (case measure => simp [intOf]; omega)) | (go_ret; exact ⟨hb, _, rfl, fun h _ => (by exfalso; have h1 := HKB.out h; omega), fun _ => rfl⟩)
        · go_wp2_with fail
          go_ret
          exact ⟨hb, _, rfl, fun _ _ => rfl, fun h => by omega⟩
set_option maxRecDepth 100000 in
set_option maxHeartbeats 400000 in
theorem isNameR_t (s : ByteArray) (hs : s.size ≤ 70000) (w : World) : Calls Tryz.prog 182 #[.string s] w fun e w' => e = .returned (.bool (isNameB s.data.toList)) ∧ Below w.heap.size w w' := by
  have hl := size_data s
  have hA := cntA_all s.data.toList
  have hfin : isNameB s.data.toList = decide (1 ≤ s.size ∧ s.size ≤ 16 ∧ cntA s.data.toList = s.size) := by
    unfold isNameB; rw [hl] at hA ⊢; rw [Bool.eq_iff_iff]; simp only [Bool.and_eq_true, decide_eq_true_eq]; rw [← hA, and_assoc]
  rw [hl] at hA
  have HF := Lib.hid hfin
  have HA := Lib.hid hA
  clear hfin hl hA
  by_cases h16 : s.size ≤ 16
  · go_enter Tryz.func182, Tryz.ntmps182
    go_wp2_with fail
    refine (isWordR_t s h16 _).mono ?_
    rintro e w1 ⟨hb, b, rfl, h1, h2⟩
    have H1 := Lib.hid h1
    have H2 := Lib.hid h2
    clear h1 h2
    cases b
    · go_wp2_with fail
      go_ret
      refine ⟨ret_bool ?_, hb⟩
      rw [HF.out, eq_comm, decide_eq_false_iff_not]
      rintro ⟨a1, a2, a3⟩
      have := H1.out (HA.out.1 a3) a1
      cases this
    · go_wp2_with (go_at_call 213; refine (lettersR_t s hs _).mono ?_; rintro e w' ⟨rfl, rfl⟩)
      go_ret
      refine ⟨ret_bool ?_, hb⟩
      have h0 : s.size ≠ 0 := fun e => by have := H2.out e; cases this
      rw [HF.out, Bool.eq_iff_iff]
      simp
      omega
  · go_enter Tryz.func182, Tryz.ntmps182
    go_wp2_with fail
    go_ret
    refine ⟨ret_bool ?_, Below.refl _ _⟩
    rw [HF.out, eq_comm, decide_eq_false_iff_not]; omega
theorem last_get (s : ByteArray) (h : s.size - 1 < s.size) : s.data.toList.getLast? = some s[s.size - 1] := by
  have hl := size_data s
  rw [List.getLast?_eq_getElem?, hl, List.getElem?_eq_getElem (by rw [hl]; exact h)]; rfl
theorem named_star (s : ByteArray) (h : s.size - 1 < s.size) (h16 : s.size ≤ 16) (h42 : ((s[s.size - 1].toNat : Int) == 42) = true) : namedB s.data.toList = isNameB (s.extract 0 (s.size - 1)).data.toList := by
  have hl := size_data s
  have h2 : s[s.size - 1] = 42 := by
    have h3 : (s[s.size - 1].toNat : Int) = 42 := by simpa using h42
    have h4 : s[s.size - 1].toNat = 42 := by omega
    exact UInt8.toNat_inj.1 h4
  unfold namedB; rw [last_get s h, h2, if_pos rfl, cut_star, hl]; simp [h16]
theorem named_plain (s : ByteArray) (h : s.size - 1 < s.size) (h42 : ((s[s.size - 1].toNat : Int) == 42) = false) : namedB s.data.toList = isNameB s.data.toList := by
  unfold namedB; rw [last_get s h, if_neg]
  intro e; injection e with e; rw [e] at h42; simp at h42
theorem named_far (s : ByteArray) (h : 16 < s.size) : namedB s.data.toList = isNameB s.data.toList := by
  have hl := size_data s
  unfold namedB; split
  · rename_i h42
    rw [isNameB_star s.data.toList h42, hl, decide_eq_false (by omega), Bool.and_false]
  · rfl
theorem named_one (s : ByteArray) (h : s.size ≤ 1) : namedB s.data.toList = isNameB s.data.toList := by
  have hl := size_data s
  unfold namedB; split
  · rename_i h42
    rw [isNameB_star s.data.toList h42]
    have : s.data.toList.dropLast = [] := by rw [← List.length_eq_zero_iff, List.length_dropLast]; omega
    rw [this]; rfl
  · rfl
set_option maxRecDepth 100000 in
set_option maxHeartbeats 400000 in
theorem namedR_t (s : ByteArray) (hs : s.size ≤ 70000) (w : World) : Calls Tryz.prog 118 #[.string s] w fun e w' => e = .returned (.bool (namedB s.data.toList)) ∧ Below w.heap.size w w' := by
  go_enter Tryz.func118, Tryz.ntmps118
  go_wp2_with fail
  · have hf := Lib.hid (named_star s (by omega) (by omega) ‹_›)
    refine (isNameR_t _ (by simp; omega) _).mono ?_
    rintro e w1 ⟨rfl, hb⟩
    rw [← hf.out]
    go_wp2_with fail
    go_ret
    exact ⟨rfl, hb⟩
  · have hf := Lib.hid (named_plain s (by omega) ‹_›)
    refine (isNameR_t _ hs _).mono ?_
    rintro e w1 ⟨rfl, hb⟩
    rw [← hf.out]
    go_wp2_with fail
    go_ret
    exact ⟨rfl, hb⟩
  · have hf := Lib.hid (named_far s (by omega))
    refine (isNameR_t _ hs _).mono ?_
    rintro e w1 ⟨rfl, hb⟩
    rw [← hf.out]
    go_wp2_with fail
    go_ret
    exact ⟨rfl, hb⟩
  · have hf := Lib.hid (named_one s (by omega))
    refine (isNameR_t _ hs _).mono ?_
    rintro e w1 ⟨rfl, hb⟩
    rw [← hf.out]
    go_wp2_with fail
    go_ret
    exact ⟨rfl, hb⟩
end Go.Proofs.YtpjijbophjdgaaaGreat
