/- Names, as layer 1's and layer 31's references have them. The contracts of parsimony.Score .. -/
import Derived.Test.YtpnmblnahjjmhaaGreatQ1
import Derived.Test.YtpnmblnahjjmhaaGreatQ2
import Derived.StillTail
set_option maxRecDepth 100000
namespace Go.Proofs.YtpnmblnahjjmhaaGreat
section
open Go.RowKit Go.Deep
theorem Tryz.NH : (Tryz.prog.info? 4).map (fun i => (i.zero, i.size, i.bytes)) = some (some (.bool false), 1, 1) := by kernel_rfl
theorem Fs (c : Nat) : (97 ≤ c ∧ c ≤ 122) ∨ (65 ≤ c ∧ c ≤ 90) ∨ (48 ≤ c ∧ c ≤ 57) ∨ c = 94 ∨ c = 126 ∨ c = 37 ∨ c = 39 ∨ c = 32 ∨ c = 46 ∨ c = 44 ∨ c = 59 ∨ c = 58 ∨ c = 33 ∨ c = 63 ∨ c = 40 ∨ c = 41 ∨ c = 45 ∨
  ((c < 97 ∨ 122 < c) ∧ (c < 65 ∨ 90 < c) ∧ (c < 48 ∨ 57 < c) ∧ c ≠ 94 ∧ c ≠ 126 ∧ c ≠ 37 ∧ c ≠ 39 ∧ c ≠ 32 ∧ c ≠ 46 ∧ c ≠ 44 ∧ c ≠ 59 ∧ c ≠ 58 ∧ c ≠ 33 ∧ c ≠ 63 ∧ c ≠ 40 ∧ c ≠ 41 ∧ c ≠ 45) := by omega
def rj (c : Nat) (w : World) (e : Ending) (w' : World) : Prop := e = .returned (.int .i64 (cW c)) ∧ w = w'
theorem kp {c : Nat} {n : Int} {w : World} (h : n = cW c) : rj c w (.returned (.int .i64 n)) w := ⟨by rw [h], rfl⟩
set_option maxHeartbeats 400000 in
theorem dg (c : Nat) (h : c ∈ [94, 126, 37, 39, 32, 46, 44, 59, 58, 33, 63, 40, 41, 45]) (w : World) : Calls Tryz.prog 286 #[.int .u8 c] w (rj c w) := by
 simp only [List.mem_cons, List.not_mem_nil, or_false] at h
 rcases h with rfl | rfl | rfl | rfl | rfl | rfl | rfl | rfl | rfl | rfl | rfl | rfl | rfl | rfl
 all_goals
  go_enter Tryz.func286, Tryz.ntmps286
  go_wp2
  go_ret
  exact kp rfl
set_option maxHeartbeats 400000 in
theorem Q7 (c : Nat) (HK : Hid (cW c = 0)) (hc : c < 256) (h : c < 48 ∨ (57 < c ∧ c < 65) ∨ (90 < c ∧ c < 97) ∨ 122 < c) (Wv : ((c : Int) == 94) = false) (Q8 : ((c : Int) == 126) = false) (Ww : ((c : Int) == 37) = false) (e39 : ((c : Int) == 39) = false) (e32 : ((c : Int) == 32) = false) (e46 : ((c : Int) == 46) = false) (e44 : ((c : Int) == 44) = false) (e59 : ((c : Int) == 59) = false) (e58 : ((c : Int) == 58) = false) (e33 : ((c : Int) == 33) = false) (e63 : ((c : Int) == 63) = false) (e40 : ((c : Int) == 40) = false) (e41 : ((c : Int) == 41) = false) (e45 : ((c : Int) == 45) = false) (w : World) : Calls Tryz.prog 286 #[.int .u8 c] w (rj c w) := by
 rcases h with h1 | ⟨h1, h2⟩ | ⟨h1, h2⟩ | h1
 all_goals
  go_enter Tryz.func286, Tryz.ntmps286
  go_wp2
  go_ret
  exact kp HK.out.symm
theorem Jw (c : Nat) (hc : c < 256) (h1 : c < 97 ∨ 122 < c) (h2 : c < 65 ∨ 90 < c) (h3 : c < 48 ∨ 57 < c) (n94 : c ≠ 94) (n126 : c ≠ 126) (n37 : c ≠ 37) (n39 : c ≠ 39) (n32 : c ≠ 32) (n46 : c ≠ 46) (n44 : c ≠ 44) (n59 : c ≠ 59) (n58 : c ≠ 58) (n33 : c ≠ 33) (n63 : c ≠ 63) (n40 : c ≠ 40) (n41 : c ≠ 41) (n45 : c ≠ 45) (w : World) : Calls Tryz.prog 286 #[.int .u8 c] w (rj c w) := by
 have hk : cW c = 0 := by
  unfold cW isLet uQ
  rw [if_neg (by simp; omega), if_neg (by omega), if_neg (by omega), if_neg n39, if_neg n32, if_neg (by simp; omega)]
 have Wv : ((c : Int) == 94) = false := by rw [beq_eq_false_iff_ne]; omega
 have Q8 : ((c : Int) == 126) = false := by rw [beq_eq_false_iff_ne]; omega
 have Ww : ((c : Int) == 37) = false := by rw [beq_eq_false_iff_ne]; omega
 have e39 : ((c : Int) == 39) = false := by rw [beq_eq_false_iff_ne]; omega
 have e32 : ((c : Int) == 32) = false := by rw [beq_eq_false_iff_ne]; omega
 have e46 : ((c : Int) == 46) = false := by rw [beq_eq_false_iff_ne]; omega
 have e44 : ((c : Int) == 44) = false := by rw [beq_eq_false_iff_ne]; omega
 have e59 : ((c : Int) == 59) = false := by rw [beq_eq_false_iff_ne]; omega
 have e58 : ((c : Int) == 58) = false := by rw [beq_eq_false_iff_ne]; omega
 have e33 : ((c : Int) == 33) = false := by rw [beq_eq_false_iff_ne]; omega
 have e63 : ((c : Int) == 63) = false := by rw [beq_eq_false_iff_ne]; omega
 have e40 : ((c : Int) == 40) = false := by rw [beq_eq_false_iff_ne]; omega
 have e41 : ((c : Int) == 41) = false := by rw [beq_eq_false_iff_ne]; omega
 have e45 : ((c : Int) == 45) = false := by rw [beq_eq_false_iff_ne]; omega
 exact Q7 c hk hc (by omega) Wv Q8 Ww e39 e32 e46 e44 e59 e58 e33 e63 e40 e41 e45 w
set_option maxHeartbeats 400000 in
theorem tH (c : Nat) (hc : c < 256) (h : (97 ≤ c ∧ c ≤ 122) ∨ (65 ≤ c ∧ c ≤ 90) ∨ (48 ≤ c ∧ c ≤ 57)) (w : World) : Calls Tryz.prog 286 #[.int .u8 c] w (rj c w) := by
 rcases h with ⟨h1, h2⟩ | ⟨h1, h2⟩ | ⟨h1, h2⟩
 ·have hk : cW c = 1 := by unfold cW isLet; rw [if_pos (by simp; omega)]
  have HK := aa hk
  clear hk
  go_enter Tryz.func286, Tryz.ntmps286
  go_wp2
  go_ret
  exact kp HK.out.symm
 ·have hk : cW c = 1 := by unfold cW isLet; rw [if_pos (by simp; omega)]
  have HK := aa hk
  clear hk
  go_enter Tryz.func286, Tryz.ntmps286
  go_wp2
  go_ret
  exact kp HK.out.symm
 ·have hk : cW c = 3 := by unfold cW isLet; rw [if_neg (by simp; omega), if_neg (by omega), if_pos (by omega)]
  have HK := aa hk
  clear hk
  have Wv : ((c : Int) == 94) = false := by rw [beq_eq_false_iff_ne]; omega
  have Q8 : ((c : Int) == 126) = false := by rw [beq_eq_false_iff_ne]; omega
  have Ww : ((c : Int) == 37) = false := by rw [beq_eq_false_iff_ne]; omega
  go_enter Tryz.func286, Tryz.ntmps286
  go_wp2
  go_ret
  exact kp HK.out.symm
theorem qK (c : Nat) (hc : c < 256) (w : World) : Calls Tryz.prog 286 #[.int .u8 c] w fun e w' => e = .returned (.int .i64 (cW c)) ∧ w = w' := by
 have h := Fs c
 rcases h with h | h | h | h | h | h | h | h | h | h | h | h | h | h | h | h | h | ⟨h1, h2, h3, n94, n126, n37, n39, n32, n46, n44, n59, n58, n33, n63, n40, n41, n45⟩
 ·exact tH c hc (.inl h) w
 ·exact tH c hc (.inr (.inl h)) w
 ·exact tH c hc (.inr (.inr h)) w
 ·exact dg c (by rw [h]; decide) w
 ·exact dg c (by rw [h]; decide) w
 ·exact dg c (by rw [h]; decide) w
 ·exact dg c (by rw [h]; decide) w
 ·exact dg c (by rw [h]; decide) w
 ·exact dg c (by rw [h]; decide) w
 ·exact dg c (by rw [h]; decide) w
 ·exact dg c (by rw [h]; decide) w
 ·exact dg c (by rw [h]; decide) w
 ·exact dg c (by rw [h]; decide) w
 ·exact dg c (by rw [h]; decide) w
 ·exact dg c (by rw [h]; decide) w
 ·exact dg c (by rw [h]; decide) w
 ·exact dg c (by rw [h]; decide) w
 ·exact Jw c hc h1 h2 h3 n94 n126 n37 n39 n32 n46 n44 n59 n58 n33 n63 n40 n41 n45 w
set_option maxHeartbeats 400000 in
theorem LK (s : ByteArray) (hs : s.size ≤ 70000) (w : World) : Calls Tryz.prog 237 #[.string s] w fun e w' => e = .returned (.int .i64 (jC s.data.toList)) ∧ w = w' := by
 go_enter Tryz.func237, Tryz.ntmps237
 go_wp2
 go_loop [3, 4, 5] (fun n i _ => ∃ k : Nat, k ≤ s.size ∧ i = .int .i64 k ∧ n = .int .i64 (jC (s.data.toList.take k))) (fun _ i _ => s.size - (intOf i).toNat)
 case atStart => exact ⟨0, Nat.zero_le _, rfl, rfl⟩
 case round =>
  obtain ⟨k, hk, rfl, rfl⟩ := hrel
  have hb : jC (s.data.toList.take k) ≤ 70000 := Nat.le_trans (CB _) (by simp; omega)
  by_cases hlt : k < s.size
  ·have hst := wR s k hlt
   have hk' := qV s[k]
   have hc : s[k].toNat < 256 := s[k].toNat_lt
   generalize hm : jC (s.data.toList.take k) = m at *
   have HS := aa hst
   have HK := aa hk'
   clear hst hm hk'
   go_wp2_with (go_at_call 286; refine (qK _ hc _).mono ?_; rintro e w' ⟨rfl, rfl⟩; generalize cW _ = q at *)
   all_goals
    go_round
    case rel => exact ⟨k + 1, by omega, by go_num, by rw [HS.out]; first | (rw [if_pos (HK.out.1 (by first | omega | (simp only [beq_iff_eq] at *; omega)))]; go_num) | (rw [if_neg (fun h => by have := HK.out.2 h; simp only [beq_eq_false_iff_ne, ne_eq] at *; omega)]; go_num)⟩
    case measure => simp [intOf]; omega
  ·go_wp2
   go_ret
   exact ⟨aI (by rw [List.take_of_length_le (by simp; omega)]), rfl⟩
end
section
open Go.RowKit Go.Deep
def Up (w w' : World) : Prop := Below w.heap.size w w'
theorem Up.refl (w : World) : Up w w := Below.refl _ _
theorem Up.trans {a b c : World} (h : Up a b) (k : Up b c) : Up a c := Below.trans h (Below.mono k h.size)
theorem Up.alloc (w : World) (o : Obj) : Up w (w.alloc o) := (Below.refl _ _).alloc (Nat.le_refl _) _
theorem Up.drewN (w : World) (n : Nat) : Up w (w.drewN n) := below_drewN (Below.refl _ _) n
theorem Up.kept {w w' : World} (h : Up w w') (S : Nat → Prop) : Kept S w w' := Kept.below h
theorem Up.size {w w' : World} (h : Up w w') : w.heap.size ≤ w'.heap.size := Below.size h
theorem Up.cell {w w' : World} (h : Up w w') {p : Addr} {v : Value} (hc : w.cell? p = some v) : w'.cell? p = some v := by
 obtain ⟨b, o, i⟩ := p
 have hl : b < w.heap.size := World.block_lt_of_cell? w _ hc
 rw [Below.cell h (p := ⟨b, o, i⟩) hl]; exact hc
theorem cB (w : World) (P N : Value) (T : TypeId) : (w.alloc (.cells #[P, N] T)).cell? ⟨w.heap.size, 0, none⟩ = some P := by simp [World.cell?_alloc_new]
theorem cI (w : World) (P N : Value) (T : TypeId) : (w.alloc (.cells #[P, N] T)).cell? ⟨w.heap.size, 1, none⟩ = some N := by simp [World.cell?_alloc_new]
theorem gG (w : World) (P : Value) (T : TypeId) : (w.alloc (.cells #[P] T)).cell? ⟨w.heap.size, 0, none⟩ = some P := by simp [World.cell?_alloc_new]
theorem cN {S : Nat → Prop} {w : World} {v : Value} {xs : List (List Int)} (h : aJ S w v xs) : ∃ p cap, v = .slice p xs.length cap ∧ xs.length ≤ cap ∧
  ∀ k, k < xs.length → ∃ b off q c, p = some ⟨b, off, none⟩ ∧ w.cell? ⟨b, off + k, none⟩ = some (.slice q (gl xs k).length c) ∧ af S w (.slice q (gl xs k).length c) (gl xs k) := by
 obtain ⟨f, jv, hr⟩ := h
 obtain ⟨p, cap, rfl, hcap, H⟩ := av.open jv
 refine ⟨p, cap, rfl, hcap, fun k hk => ?_⟩
 obtain ⟨b, off, rfl, hc⟩ := H k hk
 have h1 := hr k hk
 obtain ⟨q, c, e, _, _⟩ := av.open h1
 rw [e] at hc h1
 exact ⟨b, off, q, c, rfl, hc, h1⟩
theorem bw {S : Nat → Prop} {w : World} {p : Option Addr} {n cap : Nat} {xs : List Int} (h : af S w (.slice p n cap) xs) {k : Nat} (hk : k < xs.length) : ∃ b off, p = some ⟨b, off, none⟩ ∧ w.cell? ⟨b, off + k, none⟩ = some (.int .i64 (gi xs k)) := by
 obtain ⟨q, c, e, _, H⟩ := av.open h
 injection e with e1
 subst e1
 exact H k hk
theorem cC {S : Nat → Prop} {w : World} {p : Option Addr} {n cap : Nat} {xs : List ByteArray} (h : ay S w (.slice p n cap) xs) {k : Nat} (hk : k < xs.length) : ∃ b off, p = some ⟨b, off, none⟩ ∧ w.cell? ⟨b, off + k, none⟩ = some (.string (gs xs k)) := by
 obtain ⟨q, c, e, _, H⟩ := av.open h
 injection e with e1
 subst e1
 exact H k hk
theorem dX {S : Nat → Prop} {w : World} {p : Option Addr} {n cap : Nat} {xs : List (List Int)} (h : aJ S w (.slice p n cap) xs) {k : Nat} (hk : k < xs.length) :
  ∃ b off q c, p = some ⟨b, off, none⟩ ∧ w.cell? ⟨b, off + k, none⟩ = some (.slice q (gl xs k).length c) ∧ af S w (.slice q (gl xs k).length c) (gl xs k) := by
 obtain ⟨q, c, e, _, H⟩ := cN h
 injection e with e1
 subst e1
 exact H k hk
theorem NI {S : Nat → Prop} {w : World} {b off : Nat} {n cap : Nat} {xs : List Int} (h : af S w (.slice (some ⟨b, off, none⟩) n cap) xs) {k : Nat} (hk : k < xs.length) : w.cell? ⟨b, off + k, none⟩ = some (.int .i64 (gi xs k)) := by
 obtain ⟨b', o', e, hc⟩ := bw h hk
 injection e with e
 injection e with e1 e2
 subst e1; subst e2; exact hc
theorem wV {S : Nat → Prop} {w : World} {b off : Nat} {n cap : Nat} {xs : List (List Int)} (h : aJ S w (.slice (some ⟨b, off, none⟩) n cap) xs) {k : Nat} (hk : k < xs.length) :
  ∃ q c, w.cell? ⟨b, off + k, none⟩ = some (.slice q (gl xs k).length c) ∧ af S w (.slice q (gl xs k).length c) (gl xs k) := by
 obtain ⟨b', o', q, c, e, hc, hi⟩ := dX h hk
 injection e with e
 injection e with e1 e2
 subst e1; subst e2; exact ⟨q, c, hc, hi⟩
end
section
open Go.RowKit Go.Shelf Go.Deep
section
variable {F : Fence} {n : Nat} {P : Program} {C : World → Prop}
end
end
section
open Go.RowKit Go.Deep
def Wx (w : World) (n : Nat) (e : Ending) (w' : World) : Prop := Below w.heap.size w w' ∧ ∃ v, ∃ bs : List Bool, e = .returned v ∧ bs.length = n ∧ av Any w' v n (fun k => .bool (gb bs k))
theorem ah.bools {base : Nat} {e : TypeId} {w : World} {v : Value} {xs : List Bool} (h : ah base e w v (xs.map Value.bool)) : av (fun b => base ≤ b) w v xs.length (fun k => .bool (gb xs k)) := by
 have := h.qZ
 rw [List.length_map] at this
 exact this.congr fun k hk => by simp [gb, hk]
theorem av.mI {S : Nat → Prop} {w : World} {b n cap : Nat} {f : Nat → Value} {o : Nat} (h : av S w (.slice (some ⟨b, o, none⟩) n cap) n f) {k : Nat} (hk : k < n) : w.cell? ⟨b, o + k, none⟩ = some (f k) := by
 obtain ⟨p, c, e, _, H⟩ := h.open
 cases e
 obtain ⟨b', o', e', hc⟩ := H k hk
 cases e'
 exact hc
theorem ah.form {base : Nat} {e : TypeId} {w : World} {v : Value} {vs : List Value} {n : Nat} (h : ah base e w v vs) (hn : vs.length = n) : ∃ p cap, v = .slice p n cap ∧ (p = none ∨ ∃ g, p = some ⟨g, 0, none⟩) := by
 subst hn
 rcases h.2 with ⟨rfl, h0⟩ | ⟨g, cap, cur, rfl, _⟩
 ·exact ⟨none, 0, by rw [h0], .inl rfl⟩
 ·exact ⟨_, cap, rfl, .inr ⟨g, rfl⟩⟩
theorem ah.made (w : World) (e : TypeId) : ah w.heap.size e (w.alloc (.cells #[] e)) (.slice (some ⟨w.heap.size, 0, none⟩) 0 0) [] := World.ownsRow_made w #[] 0 (Nat.le_refl _) (by unfold maxLen; omega) (by simp)
set_option maxHeartbeats 400000 in
theorem Vs (s : ByteArray) (hs : s.size ≤ 1000) (w : World) : Calls Tryz.prog 302 #[.string s] w (Wx w s.size) := by
 go_enter Tryz.func302, Tryz.ntmps302
 go_wp2
 go_loopw [3, 4] (fun v i wr => ∃ k : Nat, ∃ bs : List Bool, k ≤ s.size ∧ i = .int .i64 k ∧ bs.length = k ∧ ah w.heap.size 4 wr v (bs.map .bool) ∧ Below w.heap.size w wr) (fun _ i _ => s.size - (intOf i).toNat)
 case atStart => exact ⟨0, [], Nat.zero_le _, rfl, rfl, ah.made _ _, (Below.refl _ _).alloc (Nat.le_refl _) _⟩
 case round =>
  obtain ⟨k, bs, hk, rfl, hbl, hown, hbr⟩ := hrel
  have hsz := hbr.size
  have jS := aa hbl
  by_cases hlt : k < s.size
  ·have dr : Hid ((bs.map Value.bool).length ≤ 1000000) := by unfold Hid; rw [List.length_map]; omega
   clear hbl
   rcases Nat.eq_zero_or_pos k with rfl | iI
   ·go_wp2_with (first | (go_at_call 286; refine (qK _ (UInt8.toNat_lt _) _).mono ?_; rintro e w' ⟨rfl, rfl⟩; generalize cW _ = q at *) | (at_builtin; refine lM wr rfl _ _ 132 rfl w.heap.size 4 _ 1 Tryz.underlying132 Tryz.NH rfl (by decide) hown rfl _ rfl rfl dr.out hsz ?_; intro g cap w2 hown1 hg1 hb1))
    all_goals
     go_roundw
     case rel => exact ⟨1, bs ++ [_], by omega, by go_num, by rw [List.length_append, jS.out]; rfl, by rw [List.map_append]; rw [List.length_map] at hown1; exact hown1, hbr.trans hb1⟩
     case measure => simp [intOf]; omega
   ·have jv := hown.bools
    obtain ⟨p, cap, rfl, hp⟩ := hown.form (n := k) (by rw [List.length_map]; exact jS.out)
    rw [jS.out] at jv
    obtain ⟨p', cap', e', hcap', H⟩ := jv.open
    cases e'
    obtain ⟨b, off, rfl, hc⟩ := H (k - 1) (by have := jS.out; omega)
    clear H jv hp
    go_wp2_with (first | (go_at_call 286; refine (qK _ (UInt8.toNat_lt _) _).mono ?_; rintro e w' ⟨rfl, rfl⟩; generalize cW _ = q at *) | (at_builtin; refine lM wr rfl _ _ 132 rfl w.heap.size 4 _ 1 Tryz.underlying132 Tryz.NH rfl (by decide) hown rfl _ rfl rfl dr.out hsz ?_; intro g cap w2 hown1 hg1 hb1))
    all_goals
     go_roundw
     case rel => exact ⟨k + 1, bs ++ [_], by omega, by go_num, by rw [List.length_append, jS.out]; rfl, by rw [List.map_append]; rw [List.length_map] at hown1; exact hown1, hbr.trans hb1⟩
     case measure => simp [intOf]; omega
  ·obtain rfl : k = s.size := by omega
   clear hlt hk hbl
   go_wp2
   go_ret
   exact ⟨hbr, _, bs, rfl, jS.out, (by rw [← jS.out]; exact hown.bools.sub fun _ _ _ => trivial)⟩
end
section
open Go.RowKit Go.Deep
section
variable {P : Program} {ops : Array Oper} {rest : List Oper} {o : Oper} {a : Act} {Q : Exit → Act → World → Prop}
theorem Jy (W : World) (hgd : o.guard = none) (s x : Operand) (t : TypeId) (ho : o.op = .call { callee := .builtin .append, args := #[s, x], argTypes := #[t, t] })
  (base : Nat) (e : TypeId) (z : Value) (bytes : Nat) (ht : P.underlying t = some (.slice e)) (hinfo : (P.info? e).map (fun i => (i.zero, i.size, i.bytes)) = some (some z, 1, bytes))
  (hz1 : z.cells.size = 1) (jJ : bytes ≤ 64) {v : Value} {vs : List Value} (hown : ah base e W v vs) (hs : a.eval s = v) (ad : Addr) (c : Nat) (news : List Value)
  (hx : a.eval x = .slice (some ad) news.length c) (hnews : ∀ j u, news[j]? = some u → W.cell? (ad.add j) = some u) (h1 : ∀ u ∈ news, u.oneCell' = true) (hn : vs.length + news.length ≤ 1000000) (hbase : base ≤ W.heap.size)
  (h : ∀ v' w', ah base e w' v' (vs ++ news) → W.grownBy w' v.ownBlock → Below base W w' → wpList P ops Q rest (a.put o.dst v') w') :
  wpList P ops Q (o :: rest) a W := by
 obtain ⟨i, hi, hzz⟩ := Option.map_eq_some_iff.1 hinfo
 simp only [Prod.mk.injEq] at hzz
 obtain ⟨hz, hs1, hb⟩ := hzz
 refine wpList_append_own _ hgd s x t ho base e i z 1 bytes ht hi hz hs1 hb hz1 (by omega) v vs.length vs hs hown ad news.length c news hx (by omega) hnews h1
  (by unfold maxLen; omega) ?_ hbase fun v' w' h2 h3 _ => h v' w' ?_ h3 (hown.eW h3 hbase)
 ·have : (vs.length + news.length) * bytes ≤ (vs.length + news.length) * 64 := Nat.mul_le_mul_left _ jJ
  omega
 ·unfold ah; rw [List.length_append]; exact h2
end
theorem NJ {S : Nat → Prop} {w : World} {b off n cap : Nat} {xs : List Int} (h : af S w (.slice (some ⟨b, off, none⟩) n cap) xs) : ∀ j u, (xs.map (Value.int .i64))[j]? = some u → w.cell? ((⟨b, off, none⟩ : Addr).add j) = some u := by
 intro j u hj
 have Fq : (⟨b, off, none⟩ : Addr).add j = ⟨b, off + j, none⟩ := by unfold Addr.add; split <;> simp_all
 rw [List.getElem?_map] at hj
 obtain ⟨x, hx, rfl⟩ := Option.map_eq_some_iff.1 hj
 have hk : j < xs.length := (List.getElem?_eq_some_iff.1 hx).1
 rw [Fq, NI h hk]
 simp [gi, hx]
theorem Fu {xs ys : List Int} (hl : xs.length = ys.length) (h : ∀ j, j < xs.length → gi xs j = gi ys j) : xs = ys := by
 refine List.ext_getElem hl fun i h1 h2 => ?_
 have := h i h1
 simpa [gi, h1, h2] using this
def wW (w : World) (b : Bool) (e : Ending) (w' : World) : Prop := e = .returned (.bool b) ∧ ∃ n, w' = w.drewN n
set_option maxHeartbeats 400000 in
theorem ze (S T : Nat → Prop) (w : World) (v u : Value) (xs ys : List Int) (h : af S w v xs) (h2 : af T w u ys) (hn : xs.length ≤ 1000000) (hn2 : ys.length ≤ 1000000) :
  Calls Tryz.prog 27 #[v, u] w (wW w (decide (xs = ys))) := by
 obtain ⟨p, cap, rfl, hcap, _⟩ := av.open h
 obtain ⟨q, bJ, rfl, AY, _⟩ := av.open h2
 have HX : Hid (af S w (.slice p xs.length cap) xs) := h
 have HY : Hid (af T w (.slice q ys.length bJ) ys) := h2
 clear h h2
 by_cases hl : xs.length = ys.length
 ·have pE : ((xs.length : Int) != ys.length) = false := by simp [hl]
  have HL := aa hl
  clear hl
  go_enter Tryz.func27, Tryz.ntmps27
  go_wp2_with fail
  go_loopw [5, 13] (fun _ i wr => ∃ k n : Nat, k ≤ xs.length ∧ i = .int .i64 k ∧ wr = w.drewN n ∧ Hid (∀ j, j < k → gi xs j = gi ys j)) (fun _ i _ => xs.length - (intOf i).toNat)
  case atStart => exact ⟨0, 0, Nat.zero_le _, rfl, rfl, fun j hj => absurd hj (Nat.not_lt_zero _)⟩
  case round =>
   obtain ⟨k, n, hk, rfl, rfl, hd⟩ := hrel
   by_cases hlt : k < xs.length
   ·have iT : k < ys.length := by rw [← HL.out]; exact hlt
    obtain ⟨b, off, rfl, hc⟩ := bw HX.out hlt
    obtain ⟨b2, off2, rfl, hc2⟩ := bw HY.out iT
    have i1 : (0 : Int) ≤ (k : Int) := by omega
    have i2 : (k : Int) < (xs.length : Int) := by omega
    have i3 : (k : Int) < (ys.length : Int) := by omega
    generalize hx : gi xs k = x at *
    generalize hy : gi ys k = y at *
    have zg := aa hx
    have NK := aa hy
    clear hx hy
    by_cases hxy : x = y
    ·have Q9 : (x != y) = false := by simp [hxy]
     have ri := aa hxy
     clear hxy
     go_wp2_with fail
     go_quiet (fail)
     go_wp2_with fail
     go_roundw
     case rel => exact ⟨k + 1, n + nq, by omega, by go_num, rfl, fun j hj => if e : j = k then by subst e; rw [zg.out, NK.out, ri.out] else hd.out j (by omega)⟩
     case measure => simp [intOf]; omega
    ·have Q9 : (x != y) = true := by simpa using hxy
     have ri := aa hxy
     clear hxy
     go_wp2_with fail
     go_quiet (fail)
     go_wp2_with fail
     go_ret
     refine ⟨aO ?_, n + nq, by rw [World.drewN_drewN]⟩
     rw [eq_comm, decide_eq_false_iff_not]
     rintro rfl
     exact ri.out (by rw [← zg.out, ← NK.out])
   ·obtain rfl : k = xs.length := by omega
    clear hlt hk
    have hex : xs = ys := Fu HL.out hd.out
    have NL : Hid (decide (xs = ys) = true) := decide_eq_true hex
    clear hex
    go_wp2_with fail
    go_ret
    exact ⟨aO (by rw [NL.out]), n, rfl⟩
 ·have pE : ((xs.length : Int) != ys.length) = true := by simp; omega
  have HL := aa hl
  clear hl
  go_enter Tryz.func27, Tryz.ntmps27
  go_wp2_with fail
  go_ret
  refine ⟨aO ?_, 0, rfl⟩
  rw [eq_comm, decide_eq_false_iff_not]
  rintro rfl
  exact HL.out rfl
end
section
open Go.RowKit Go.Deep
theorem ah.set {base : Nat} {e : TypeId} {w : World} {v : Value} {vs : List Value} (h : ah base e w v vs) {j : Nat} (hj : j < vs.length) :
  ∃ g cap, v = .slice (some ⟨g, 0, none⟩) vs.length cap ∧ base ≤ g ∧ g < w.heap.size ∧ w.cell? ⟨g, j, none⟩ = some (vs.getD j undef) ∧ w.frozen? ⟨g, j, none⟩ = false ∧ ∀ x, ah base e (w.setCell ⟨g, j, none⟩ x) v (vs.set j x) := by
 obtain ⟨hl, h | ⟨g, cap, cur, rfl, hg, hc, hn, hcm, hcs, ht⟩⟩ := h
 ·omega
 ·have sK : g < w.heap.size := (Array.getElem?_eq_some_iff.1 hc).1
  have ht1 : cur.toList.take vs.length = vs := by rw [Nat.mul_one] at ht; exact ht
  have hj2 : j < cur.size := by omega
  have hcell : cur[j]? = some (vs.getD j undef) := by
   have h1 : vs[j]? = some (vs.getD j undef) := by simp [hj]
   rw [← h1]
   have h2 := congrArg (·[j]?) ht1
   simp only [List.getElem?_take, hj, if_true] at h2
   rw [← h2]; simp
  refine ⟨g, cap, rfl, hg, sK, by simp [World.cell?, hc, hcell], by simp [World.frozen?, hc], fun x => ⟨by simp, .inr ⟨g, cap, cur.setIfInBounds j x, by simp, hg, ?_, by simpa using hn, hcm, by simpa using hcs, ?_⟩⟩⟩
  ·simp [World.setCell, Array.getElem?_modify, hc]
  ·rw [List.length_set, Nat.mul_one, Array.toList_setIfInBounds, List.take_set, ht1]
theorem ax {base : Nat} {e : TypeId} {w : World} {v : Value} {vs : List Value} (h : ah base e w v vs) {b : Nat} (hb : v.ownBlock = some b) : base ≤ b ∧ b < w.heap.size := World.ownsRow.lt h b hb
theorem Vt {l : List (List Int)} {m : Nat} (h : m < l.length) : l.take (m + 1) = l.take m ++ [gl l m] := by
 rw [List.take_succ_eq_append_getElem h]; simp [gl, h]
section
variable {P : Program} {ops : Array Oper} {rest : List Oper} {o : Oper} {a : Act} {Q : Exit → Act → World → Prop}
end
end
end Go.Proofs.YtpnmblnahjjmhaaGreat
