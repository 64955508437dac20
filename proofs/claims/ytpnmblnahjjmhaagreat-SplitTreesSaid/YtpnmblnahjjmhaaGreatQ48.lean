/- The contract of layer 32's reference's grow. -/
import Derived.Test.YtpnmblnahjjmhaaGreatQ1
import Derived.Test.YtpnmblnahjjmhaaGreatQ45
import Derived.Deep.CutRange
import Derived.BigQuiet
set_option maxRecDepth 100000
namespace Go.Proofs.YtpnmblnahjjmhaaGreat
open Go.RowKit Go.Deep
theorem Ct (a : List RT) (r : RT) : sizeRs (a ++ [r]) = sizeRs a + aK r := by
 induction a with
 | nil => rw [List.nil_append, sizeRs, sizeRs, sizeRs]; omega
 | cons x a ih => rw [List.cons_append, sizeRs, sizeRs, ih]; omega
theorem IX (names : List ByteArray) (l : List (List Int)) {d : Nat} (hd : 0 < d) (x : Int) : grR names l d [x] = fR names x := by
 obtain ⟨e, rfl⟩ : ∃ e, d = e + 1 := ⟨d - 1, by omega⟩
 exact Le names l e x
theorem Tv {S : Nat → Prop} {w : World} {b o cap : Nat} {xs : List Int} (h : af S w (.slice (some ⟨b, o, none⟩) xs.length cap) xs) {m : Nat} (hm : m < xs.length) : af S w (.slice (some ⟨b, o + m, none⟩) 1 (cap - m)) [gi xs m] := by
 obtain ⟨p, c, e, hc, h⟩ := h
 injection e with e1 e2 e3
 subst e1; subst e3
 rcases h with h | ⟨b', o', e4, hS, h⟩
 ·omega
 ·injection e4 with e4
  injection e4 with e5 e6
  subst e5; subst e6
  refine ⟨_, _, rfl, by simp; omega, .inr ⟨b, o + m, rfl, hS, fun k hk => ?_⟩⟩
  have hk : k = 0 := by simp at hk; omega
  subst hk
  exact h m hm
set_option maxHeartbeats 8000000 in
theorem Tw (B0 : Nat) (names : List ByteArray) (l : List (List Int)) (Z1 : names.length ≤ 32) (yq : l.length ≤ 64) (Z3 : vL l) (bD : ∀ k, k < l.length → cz (gl l k)) : ∀ (d : Nat) (set : List Int), set.length ≤ d → set ≠ [] → cz set → (∀ x ∈ set, 0 ≤ x ∧ x < (names.length : Int)) →
  ∀ (w : World) (P N vn vs vl : Value) (t : aA) (par : Int), TL B0 w P N t.ps t.ns → B0 ≤ w.heap.size → t.ns.length = t.ps.length → t.ps.length + aK (grR names l d set) ≤ 100000 →
  ay (fun b => P.ownBlock ≠ some b ∧ N.ownBlock ≠ some b) w vn names → af (fun b => P.ownBlock ≠ some b ∧ N.ownBlock ≠ some b) w vs set → aJ (fun b => P.ownBlock ≠ some b ∧ N.ownBlock ≠ some b) w vl l →
  Calls Tryz.prog 118 #[.agg #[P, N], vn, .int .i64 par, vs, vl] w (xI B0 w P N t (grR names l d set) par) := by
 intro d
 induction d with
 | zero => intro set hd hne; exact absurd (List.eq_nil_of_length_eq_zero (by omega)) hne
 | succ d ih =>
 intro set hd hne wB hbd w P N vn vs vl t par uC hB0 hnl SC uD hvs hvl
 obtain ⟨pp, pc, rfl, -, -⟩ := av.open uC.bg.ints
 obtain ⟨np, nc, rfl, -, -⟩ := av.open uC.bA.strs
 obtain ⟨mp, mc, rfl, -, -⟩ := av.open uD
 obtain ⟨sp, sc, rfl, -, -⟩ := av.open hvs
 obtain ⟨lp, lc, rfl, -, -⟩ := cN hvl
 have uD : ay _ w (.slice mp names.length mc) names := uD
 have hvs : af _ w (.slice sp set.length sc) set := hvs
 have hvl : aJ _ w (.slice lp l.length lc) l := hvl
 have Gg := Up.alloc w (.cells #[.slice pp t.ps.length pc, .slice np t.ns.length nc] 39)
 have dx := Gg.trans (Up.alloc _ (.cells #[.slice none 0 0, .slice none 0 0] 39))
 have hsz : ((w.alloc (.cells #[.slice pp t.ps.length pc, .slice np t.ns.length nc] 39)).alloc (.cells #[.slice none 0 0, .slice none 0 0] 39)).heap.size = w.heap.size + 2 := by simp
 have hb1 : ((w.alloc (.cells #[.slice pp t.ps.length pc, .slice np t.ns.length nc] 39)).alloc (.cells #[.slice none 0 0, .slice none 0 0] 39)).heap[w.heap.size]? = some (Obj.cells #[.slice pp t.ps.length pc, .slice np t.ns.length nc] 39 (0, 0)) :=
  (Below.block (Up.alloc (w.alloc (.cells #[.slice pp t.ps.length pc, .slice np t.ns.length nc] 39)) _) w.heap.size (by rw [World.size_alloc]; omega)).trans (World.alloc_heap_new _ _)
 have hrb := kA (w := w.alloc (.cells #[.slice pp t.ps.length pc, .slice np t.ns.length nc] 39)) (P := .slice none 0 0) (N := .slice none 0 0) (T := 39)
 rw [World.size_alloc] at hrb
 have hpl : ∀ b, (Value.slice pp t.ps.length pc).ownBlock = some b → b < w.heap.size := fun b hb => (ax uC.bg hb).2
 have tK : ∀ b, (Value.slice np t.ns.length nc).ownBlock = some b → b < w.heap.size := fun b hb => (ax uC.bA hb).2
 have HG : Hid (GW w.heap.size B0 ((w.alloc (.cells #[.slice pp t.ps.length pc, .slice np t.ns.length nc] 39)).alloc (.cells #[.slice none 0 0, .slice none 0 0] 39)) (.slice pp t.ps.length pc) (.slice np t.ns.length nc) t) :=
  ⟨hb1, uC.up dx, ⟨fun e => by have := hpl _ e; omega, fun e => by have := tK _ e; omega⟩, by omega⟩
 obtain ⟨S0, Qx⟩ : ∃ S0 : Nat → Prop, S0 = fun b => b < w.heap.size ∧ (Value.slice pp t.ps.length pc).ownBlock ≠ some b ∧ (Value.slice np t.ns.length nc).ownBlock ≠ some b := ⟨_, rfl⟩
 have Lr : Hid (ay S0 ((w.alloc (.cells #[.slice pp t.ps.length pc, .slice np t.ns.length nc] 39)).alloc (.cells #[.slice none 0 0, .slice none 0 0] 39)) (.slice mp names.length mc) names) := ay.keep (uD.sub fun b hb hl => by rw [Qx]; exact ⟨hl, hb⟩) (dx.kept _)
 have Qy : Hid (af S0 ((w.alloc (.cells #[.slice pp t.ps.length pc, .slice np t.ns.length nc] 39)).alloc (.cells #[.slice none 0 0, .slice none 0 0] 39)) (.slice sp set.length sc) set) := af.keep (hvs.sub fun b hb hl => by rw [Qx]; exact ⟨hl, hb⟩) (dx.kept _)
 have Gf : Hid (aJ S0 ((w.alloc (.cells #[.slice pp t.ps.length pc, .slice np t.ns.length nc] 39)).alloc (.cells #[.slice none 0 0, .slice none 0 0] 39)) (.slice lp l.length lc) l) := aJ.keep (hvl.sub fun b hb hl => by rw [Qx]; exact ⟨hl, hb⟩) (dx.kept _)
 have kr := aa ih
 have pJ := aa hnl
 have gu := aa hrb
 have cO := aa hsz
 have gR := aa dx
 have xK := aa hpl
 have lQ := aa tK
 have Tx := aa SC
 have P9 := aa Qx
 have HD := aa (And.intro hd hne)
 have kB := aa wB
 have iL := aa hbd
 have Af := HG.out.cells.1
 have Z4 := HG.out.cells.2.1
 clear ih uD hvs hvl Gg dx hb1 hrb hpl tK uC hnl SC Qx hd hne wB hbd
 have dD : Hid (t.ps.length ≤ 1000000 ∧ t.ns.length ≤ 1000000) := by have := Tx.out; have := pJ.out; unfold Hid; omega
 have hs0 : set.length ≠ 0 := fun e => HD.out.2 (List.eq_nil_of_length_eq_zero e)
 have Ty : set.length ≤ 64 := kQ kB.out
 have kI := aa (And.intro hs0 Ty)
 obtain ⟨w2, hw2⟩ : ∃ w2, w2 = (w.alloc (.cells #[.slice pp t.ps.length pc, .slice np t.ns.length nc] 39)).alloc (.cells #[.slice none 0 0, .slice none 0 0] 39) := ⟨_, rfl⟩
 rw [← hw2] at HG Lr Qy Gf gu cO gR Af Z4
 by_cases h1 : set.length = 1
 case pos =>
  have d1 : ((set.length : Int) == 1) = true := by rw [h1]; rfl
  obtain ⟨k, hk⟩ : ∃ k : Nat, gi set 0 = (k : Int) := Int.eq_ofNat_of_zero_le (iL.out _ (pg (by omega))).1
  have hkn : k < names.length := by have := (iL.out _ (pg (l := set) (k := 0) (by omega))).2; omega
  have zx : Hid (t.app (grR names l (d + 1) set) par = ⟨t.ps ++ [par], t.ns ++ [gs names k]⟩) := by
   obtain ⟨x, hx⟩ := List.length_eq_one_iff.1 h1
   have h2 : x = (k : Int) := by rw [hx] at hk; simpa [gi] using hk
   unfold Hid
   rw [hx, Le, h2]
   unfold fR
   rw [← Ad, Ab]
   rfl
  have HK := aa hk
  have KW := aa hkn
  have H1 := aa h1
  clear hk hkn h1 hs0 Ty
  go_enter Tryz.func118, Tryz.ntmps118
  go_wp2_with (first
   | (at_builtin; rw [← hw2]; refine oZ w2 rfl _ _ 26 rfl B0 3 (.int .i64 0) 8 Tryz.underlying26 Tryz.fU rfl (by decide) HG.out.tl.bg rfl (.int .i64 par) (by rw [cO.out]; rfl) rfl t.ps.length (List.length_map _) dD.out.1 HG.out.lo.2 ?_; intro g8 iZ w8 mg oI Ls; obtain ⟨KH, Pm⟩ := HG.out.Cq mg oI Ls; have IY := HG.out.U7 mg oI Ls; have lT := IY.1.cells; obtain ⟨Tz, TA, TB, TC⟩ := lT; have sB := aa IY; clear IY; generalize Ci : w8.setCell ⟨w.heap.size, 0, none⟩ (.slice (some ⟨g8, 0, none⟩) (t.ps.length + 1) iZ) = w9 at *))
  generalize htb : w.heap.size = tb at *
  have Z5 : Hid (w.heap.size = tb) := htb
  clear Ci
  have kF : Hid (∀ (W : World) (P' N' : Value), GK tb w2 W (.slice pp t.ps.length pc) (.slice np t.ns.length nc) P' N' → Kept S0 w2 W) := fun W P' N' hk => hk.Bp fun b hb _ => by
   rw [P9.out] at hb; exact ⟨by omega, hb.2⟩
  obtain ⟨sb, so, rfl⟩ : ∃ sb so, sp = some ⟨sb, so, none⟩ := by
   obtain ⟨_, _, e, _, h⟩ := av.open Qy.out
   injection e with e1 e2 e3
   subst e1
   obtain ⟨b, o, h1, _⟩ := h 0 (by have := H1.out; omega)
   exact ⟨b, o, h1⟩
  obtain ⟨mb, mo, rfl⟩ : ∃ mb mo, mp = some ⟨mb, mo, none⟩ := by
   obtain ⟨_, _, e, _, h⟩ := av.open Lr.out
   injection e with e1 e2 e3
   subst e1
   obtain ⟨b, o, h1, _⟩ := h k KW.out
   exact ⟨b, o, h1⟩
  have cn := aa sB.out.1.box
  have hd := Up.drewN w9 1
  have sQ : Hid (RW tb B0 w9 w9.drew (.slice (some ⟨g8, 0, none⟩) (t.ps.length + 1) iZ) (.slice np t.ns.length nc) (.slice (some ⟨g8, 0, none⟩) (t.ps.length + 1) iZ) (.slice np t.ns.length nc) (t.ps ++ [par]) t.ns) := (RW.start sB.out.1.tl ⟨⟨sB.out.1.lt, sB.out.1.lo.1⟩, sB.out.1.lo.2⟩).up hd
  have gD : Hid (∀ {W : World} {P' N' : Value} {ps' : List Int} {ns' : List ByteArray}, RW tb B0 w9 W (.slice (some ⟨g8, 0, none⟩) (t.ps.length + 1) iZ) (.slice np t.ns.length nc) P' N' ps' ns' → W.cell? ⟨tb, 0, none⟩ = some (.slice (some ⟨g8, 0, none⟩) (t.ps.length + 1) iZ) ∧ W.cell? ⟨tb, 1, none⟩ = some (.slice np t.ns.length nc) ∧ W.cell? ⟨sb, so, none⟩ = some (.int .i64 (k : Int)) ∧ W.cell? ⟨mb, mo + k, none⟩ = some (.string (gs names k))) := fun h => by
   have hke := kF.out _ _ _ (sB.out.2.trans h.gk)
   have h1 := av.mI (af.keep Qy.out hke) (k := 0) (by have := H1.out; omega)
   have h2 := av.mI (ay.keep Lr.out hke) (k := k) KW.out
   rw [HK.out] at h1
   exact ⟨(h.cells cn.out).1, (h.cells cn.out).2, h1, h2⟩
  have i1 : (k : Int) < (names.length : Int) := by have := KW.out; omega
  have i2 : (0 : Int) < (set.length : Int) := by have := H1.out; omega
  have i2n : 0 < set.length := by have := H1.out; omega
  have i3 : (0 : Int) ≤ (k : Int) := by omega
  refine dK (by kernel_rfl) 10 (fun w' => w'.cell? ⟨tb, 0, none⟩ = some (.slice (some ⟨g8, 0, none⟩) (t.ps.length + 1) iZ) ∧ w'.cell? ⟨tb, 1, none⟩ = some (.slice np t.ns.length nc) ∧ w'.cell? ⟨sb, so, none⟩ = some (.int .i64 (k : Int)) ∧ w'.cell? ⟨mb, mo + k, none⟩ = some (.string (gs names k))) (gD.out sQ.out) (fun hS => ?_)
  simp only [List.size_toArray, List.length_cons, List.length_nil, Nat.reduceAdd, Array.replicate_succ, Array.replicate_zero, List.push_toArray, List.nil_append, List.cons_append]
  clear Tz TA TB TC KH Pm
  generalize w9.drew = Wd at *
  refine ag.take (i := 0) (v := ?Dr) rfl (by kernel_rfl) (fun _ _ _ h => h) (by rfl) (fun w hSw => ?pF) hS ?Ds
  case pF =>
   (try dsimp only at hSw)
   go_simp
   try with_reducible rfl
  try simp only [Act.put, aj, aq, au]
  refine ag.take (i := 1) (v := ?Dt) rfl (by kernel_rfl) (fun _ _ _ h => h) (by rfl) (fun w hSw => ?pG) hS ?Du
  case pG =>
   (try dsimp only at hSw)
   go_simp
   try with_reducible rfl
  try simp only [Act.put, aj, aq, au]
  refine ag.take (i := 2) (v := ?Dv) rfl (by kernel_rfl) (fun _ _ _ h => h) (by rfl) (fun w hSw => ?pH) hS ?Dw
  case pH =>
   (try dsimp only at hSw)
   go_simp
   try with_reducible rfl
  try simp only [Act.put, aj, aq, au]
  refine ag.take (i := 3) (v := ?NU) rfl (by kernel_rfl) (fun _ _ _ h => h) (by rfl) (fun w hSw => ?xe) hS ?NV
  case xe =>
   (try dsimp only at hSw)
   go_simp
   try with_reducible rfl
  try simp only [Act.put, aj, aq, au]
  refine ag.take (i := 4) (v := ?NW) rfl (by kernel_rfl) (fun _ _ _ h => h) (by rfl) (fun w hSw => ?xg) hS ?NX
  case xg =>
   (try dsimp only at hSw)
   go_simp
   try with_reducible rfl
  try simp only [Act.put, aj, aq, au]
  refine ag.take (i := 5) (v := ?J1) rfl (by kernel_rfl) (fun _ _ _ h => h) (by rfl) (fun w hSw => ?uh) hS ?J2
  case uh =>
   (try dsimp only at hSw)
   go_simp
   try with_reducible rfl
  try simp only [Act.put, aj, aq, au]
  refine ag.take (i := 6) (v := ?NY) rfl (by kernel_rfl) (fun _ _ _ h => h) (by rfl) (fun w hSw => ?xh) hS ?NZ
  case xh =>
   (try dsimp only at hSw)
   go_simp
   try with_reducible rfl
  try simp only [Act.put, aj, aq, au]
  refine ag.take (i := 7) (v := ?J3) rfl (by kernel_rfl) (fun _ _ _ h => h) (by rfl) (fun w hSw => ?uj) hS ?J4
  case uj =>
   (try dsimp only at hSw)
   go_simp
   try with_reducible rfl
  try simp only [Act.put, aj, aq, au]
  refine ag.step (i := 8) rfl (by kernel_rfl) (fun K' hK => ?_)
  go_simp
  have jM : Hid (RW tb B0 _ (Wd.alloc (.cells #[.string (gs names k)] 9)) _ _ _ _ _ _) := sQ.out.up (Up.alloc _ _)
  refine hK.out _ _ (fun _ => gD.out jM.out) (fun _ => ?_)
  try simp only [aj, aq, au]
  refine ag.step (i := 9) rfl (by kernel_rfl) (fun K' hK => ?_)
  refine cT (by rfl) _ _ _ (by rfl) B0 9 _ 16 Tryz.underlying22 Tryz.kD (by rfl) (by decide) (by rfl) jM.out.tl.bA (.string (gs names k)) Wd.heap.size (by rfl) (bf Wd #[.string (gs names k)] 9 0) (by rfl) (by rw [List.length_map]; exact dD.out.2) (Nat.le_trans jM.out.lo.2 jM.out.gk.size) ?_
  intro g2 zq dI jD iG hrg2 _
  have ew : Hid (RW tb B0 _ dI _ _ _ _ _ _) := jM.out.nA jD iG (hrg2.imp id (fun e => Nat.le_of_eq e.symm))
  refine hK.out _ _ (fun _ => gD.out ew.out) (fun _ => ?_)
  try simp only [Act.put, aj, aq, au]
  obtain ⟨sM, di⟩ := ew.out.cells cn.out
  have zu := ew.out.frozen cn.out 0
  have tJ := ew.out.frozen cn.out 1
  have fe := aa (sB.out.1.ZC (u := ⟨t.ps ++ [par], t.ns ++ [gs names k]⟩) ew.out.gk ew.out.same ew.out.tl)
  refine ag.free (i := 10) (v := ?gv10q) rfl (by kernel_rfl) (fun _ _ _ h => h) (by rfl) (fun w => ?gy10q) (aP (by kernel_rfl)) ?gr10q
  case gy10q =>
   go_simp
   try with_reducible rfl
  try simp only [Act.put, aj, aq, au]
  refine ag.step (i := 11) rfl (by kernel_rfl) (fun K' hK => ?_)
  go_simp
  refine hK.out _ _ (aP (by kernel_rfl)) (fun _ => ?_)
  refine ag.done (by kernel_rfl) ?_
  have pL := fe.out.1
  rw [← zx.out] at pL
  have zS := sB.out.2.trans fe.out.2
  clear sM di zu tJ hd fe
  simp only [List.length_map] at pL zS ⊢
  generalize dI.setCell ⟨tb, 1, none⟩ (.slice (some ⟨g2, 0, none⟩) (t.ns.length + 1) zq) = wo at *
  obtain ⟨Pf, Nf, pL, zS⟩ : ∃ Pf Nf, GW tb B0 wo Pf Nf (t.app (grR names l (d + 1) set) par) ∧ GK tb w2 wo (.slice pp t.ps.length pc) (.slice np t.ns.length nc) Pf Nf := ⟨_, _, pL, zS⟩
  have hcs := pL.cells
  have a0 := hcs.1
  have a1 := hcs.2.1
  have hrb : wo.heap[tb + 1]? = some (Obj.cells #[.slice none 0 0, .slice none 0 0] 39 (0, 0)) :=
   (zS.block (tb + 1) (by rw [cO.out]; omega) (by omega) (fun e => by have := xK.out _ e.symm; omega) (fun e => by have := lQ.out _ e.symm; omega)).trans gu.out
  obtain ⟨r0, r1, r2, r3⟩ : wo.cell? ⟨tb + 1, 0, none⟩ = some (.slice none 0 0) ∧ wo.cell? ⟨tb + 1, 1, none⟩ = some (.slice none 0 0) ∧ wo.frozen? ⟨tb + 1, 0, none⟩ = false ∧ wo.frozen? ⟨tb + 1, 1, none⟩ = false := by
   refine ⟨?_, ?_, ?_, ?_⟩ <;> simp [World.cell?, World.frozen?, hrb]
  have je := aa pL
  have kG := aa zS
  obtain ⟨TF, IZ⟩ : ∃ TF, TF = t.app (grR names l (d + 1) set) par := ⟨_, rfl⟩
  rw [← IZ] at je
  obtain ⟨pq, fD, rfl, -, -⟩ := av.open je.out.tl.bg.ints
  obtain ⟨nq, fE, rfl, -, -⟩ := av.open je.out.tl.bA.strs
  have Gi := aa hrb
  have Qz := aa IZ
  clear hcs pL zS hrb IZ
  go_wp2_with fail
  have bD : ∀ b, b ≠ tb + 1 → ((wo.setCell ⟨tb + 1, 0, none⟩ (.slice pq TF.ps.length fD)).setCell ⟨tb + 1, 1, none⟩ (.slice nq TF.ns.length fE)).heap[b]? = wo.heap[b]? := fun b hb => by rw [blk_setCell_other _ _ _ _ hb, blk_setCell_other _ _ _ _ hb]
  have hheap : ((wo.setCell ⟨tb + 1, 0, none⟩ (.slice pq TF.ps.length fD)).setCell ⟨tb + 1, 1, none⟩ (.slice nq TF.ns.length fE)).heap[tb + 1]? = some (Obj.cells #[.slice pq TF.ps.length fD, .slice nq TF.ns.length fE] 39 (0, 0)) := by
   simp [World.setCell, Array.getElem?_modify, Gi.out]
  have hsf : ((wo.setCell ⟨tb + 1, 0, none⟩ (.slice pq TF.ps.length fD)).setCell ⟨tb + 1, 1, none⟩ (.slice nq TF.ns.length fE)).heap.size = wo.heap.size := by simp [World.size_setCell]
  have hos : ((wo.setCell ⟨tb + 1, 0, none⟩ (.slice pq TF.ps.length fD)).setCell ⟨tb + 1, 1, none⟩ (.slice nq TF.ns.length fE)).os = wo.os ∧ ((wo.setCell ⟨tb + 1, 0, none⟩ (.slice pq TF.ps.length fD)).setCell ⟨tb + 1, 1, none⟩ (.slice nq TF.ns.length fE)).tape = wo.tape ∧ ((wo.setCell ⟨tb + 1, 0, none⟩ (.slice pq TF.ps.length fD)).setCell ⟨tb + 1, 1, none⟩ (.slice nq TF.ns.length fE)).output = wo.output := ⟨rfl, rfl, rfl⟩
  generalize (wo.setCell ⟨tb + 1, 0, none⟩ (.slice pq TF.ps.length fD)).setCell ⟨tb + 1, 1, none⟩ (.slice nq TF.ns.length fE) = wf at *
  have rF : wf.cell? ⟨tb + 1, 0, none⟩ = some (.slice pq TF.ps.length fD) := by simp [World.cell?, hheap]
  have hr1 : wf.cell? ⟨tb + 1, 1, none⟩ = some (.slice nq TF.ns.length fE) := by simp [World.cell?, hheap]
  refine ⟨rfl, .agg #[.slice pq TF.ps.length fD, .slice nq TF.ns.length fE], by simp [results, Tryz.results118, go_sem, rF, hr1], ?_⟩
  have hs2 := cO.out
  have hnp : ∀ b, (Value.slice pq TF.ps.length fD).ownBlock = some b → (Value.slice pp t.ps.length pc).ownBlock = some b ∨ w2.heap.size ≤ b := kG.out.fN
  have hnn : ∀ b, (Value.slice nq TF.ns.length fE).ownBlock = some b → (Value.slice np t.ns.length nc).ownBlock = some b ∨ w2.heap.size ≤ b := kG.out.fO
  have z7 : ∀ b, (Value.slice pq TF.ps.length fD).ownBlock = some b → b ≠ tb + 1 := fun b hb => by
   rcases hnp b hb with h1 | h1
   ·have := xK.out b h1; omega
   ·omega
  have uS : ∀ b, (Value.slice nq TF.ns.length fE).ownBlock = some b → b ≠ tb + 1 := fun b hb => by
   rcases hnn b hb with h1 | h1
   ·have := lQ.out b h1; omega
   ·omega
  have FJ := kG.out.size
  have sD := gR.out
  have hwt := Z5.out
  refine ⟨_, _, rfl, ⟨?_, ?_, je.out.tl.apart⟩, hos.1.trans (kG.out.os.trans sD.os), hos.2.1.trans (kG.out.tape.trans sD.tape), hos.2.2.trans (kG.out.output.trans sD.output), by omega, fun b hb h1 h2 h3 => ?_, fun b hb => ?_, fun b hb => ?_⟩
  ·rw [← Qz.out]; exact je.out.tl.bg.dz fun b hb => bD b (z7 b hb)
  ·rw [← Qz.out]; exact je.out.tl.bA.dz fun b hb => bD b (uS b hb)
  ·rw [bD b (by omega), kG.out.block b (by omega) (by omega) h2 h3]
   exact sD.block b (by omega)
  ·rcases hnp b hb with h1 | h1
   ·exact .inl h1
   ·exact .inr (by omega)
  ·rcases hnn b hb with h1 | h1
   ·exact .inl h1
   ·exact .inr (by omega)
 case neg =>
 have d1 : ((set.length : Int) == 1) = false := beq_eq_false_iff_ne.2 (by omega)
 go_enter Tryz.func118, Tryz.ntmps118
 go_wp2_with (first
  | (at_builtin; rw [← hw2]; refine oZ w2 rfl _ _ 26 rfl B0 3 (.int .i64 0) 8 Tryz.underlying26 Tryz.fU rfl (by decide) HG.out.tl.bg rfl (.int .i64 par) (by rw [cO.out]; rfl) rfl t.ps.length (List.length_map _) dD.out.1 HG.out.lo.2 ?_; intro g8 iZ w8 mg oI Ls; obtain ⟨KH, Pm⟩ := HG.out.Cq mg oI Ls; have IY := HG.out.U7 mg oI Ls; have lT := IY.1.cells; obtain ⟨Tz, TA, TB, TC⟩ := lT; have sB := aa IY; clear IY; generalize Ci : w8.setCell ⟨w.heap.size, 0, none⟩ (.slice (some ⟨g8, 0, none⟩) (t.ps.length + 1) iZ) = w9 at *)
  | (at_builtin; refine oZ w9 rfl _ _ 22 rfl B0 9 (.string ⟨#[]⟩) 16 Tryz.underlying22 Tryz.kD rfl (by decide) sB.out.1.tl.bA rfl (.string ⟨#[]⟩) rfl rfl t.ns.length (List.length_map _) dD.out.2 sB.out.1.lo.2 ?_; intro g10 Cu ox I1 Nh Aw; obtain ⟨hc10, hf10⟩ := sB.out.1.M4 I1 Nh Aw; have TD := aa (sB.out.1.pushN I1 Nh Aw)))
 generalize hw11 : ox.setCell ⟨w.heap.size, 1, none⟩ (.slice (some ⟨g10, 0, none⟩) (t.ns.length + 1) Cu) = cr at *
 have HG11 : Hid (GW w.heap.size B0 cr (.slice (some ⟨g8, 0, none⟩) (t.ps.length + 1) iZ) (.slice (some ⟨g10, 0, none⟩) (t.ns.length + 1) Cu) (t.push par ByteArray.empty)) := TD.out.1
 have TE : Hid (GK w.heap.size w2 cr (.slice pp t.ps.length pc) (.slice np t.ns.length nc) (.slice (some ⟨g8, 0, none⟩) (t.ps.length + 1) iZ) (.slice (some ⟨g10, 0, none⟩) (t.ns.length + 1) Cu)) := sB.out.2.trans TD.out.2
 clear sB TD HG Af Z4 KH Pm hc10 hf10 Tz TA TB TC mg oI Ls I1 Nh Aw d1
 generalize htb : w.heap.size = tb at *
 have Z5 : Hid (w.heap.size = tb) := htb
 clear Ci hw11
 have dr : Hid (vL l ∧ ∀ k, k < l.length → cz (gl l k)) := ⟨Z3, bD⟩
 have iD : Hid (l.length ≤ 64) := yq
 have lu : Hid (names.length ≤ 32) := Z1
 have su := aa h1
 have kF : Hid (∀ (W : World) (P' N' : Value), GK tb w2 W (.slice pp t.ps.length pc) (.slice np t.ns.length nc) P' N' → Kept S0 w2 W) := fun W P' N' hk => hk.Bp fun b hb _ => by
  rw [P9.out] at hb; exact ⟨by omega, hb.2⟩
 have od : Hid (∀ (W : World) (P' N' : Value), GK tb w2 W (.slice pp t.ps.length pc) (.slice np t.ns.length nc) P' N' → ∀ b, S0 b → b ≠ tb ∧ P'.ownBlock ≠ some b ∧ N'.ownBlock ≠ some b) := fun W P' N' hk b hb => by
  rw [P9.out] at hb
  have h2 := cO.out
  refine ⟨by omega, fun e => ?_, fun e => ?_⟩
  ·rcases hk.fN b e with h | h
   ·exact hb.2.1 h
   ·omega
  ·rcases hk.fO b e with h | h
   ·exact hb.2.2 h
   ·omega
 have HST : Hid (af (fun b => b ≠ tb ∧ (Value.slice (some ⟨g8, 0, none⟩) (t.ps.length + 1) iZ).ownBlock ≠ some b ∧ (Value.slice (some ⟨g10, 0, none⟩) (t.ns.length + 1) Cu).ownBlock ≠ some b) cr (.slice sp set.length sc) (eE l set 0)) := (af.keep Qy.out (kF.out _ _ _ TE.out)).sub fun b hb _ => od.out _ _ _ TE.out b hb
 have qY : Hid (GW tb B0 cr (.slice (some ⟨g8, 0, none⟩) (t.ps.length + 1) iZ) (.slice (some ⟨g10, 0, none⟩) (t.ns.length + 1) Cu) ((t.push par ByteArray.empty).apps (qg names l d set 0) t.ps.length)) := by
  unfold Hid; rw [show qg names l d set 0 = [] from rfl, Ab]; exact HG11.out
 clear Z3 bD yq Z1 h1 hs0 Ty
 go_loopw [12, 13] (fun s i wr => ∃ (n : Nat) (P' N' : Value), n ≤ l.length ∧ i = .int .i64 n ∧ Hid (GW tb B0 wr P' N' ((t.push par ByteArray.empty).apps (qg names l d set n) t.ps.length)) ∧ Hid (GK tb w2 wr (.slice pp t.ps.length pc) (.slice np t.ns.length nc) P' N') ∧ Hid (af (fun b => b ≠ tb ∧ P'.ownBlock ≠ some b ∧ N'.ownBlock ≠ some b) wr s (eE l set n))) (fun _ i _ => l.length - (intOf i).toNat)
 case atStart => exact ⟨0, _, _, Nat.zero_le _, rfl, qY.out, TE.out, HST.out⟩
 case round =>
  obtain ⟨n, P', N', hn, rfl, Z6, hKn, sL⟩ := hrel
  obtain ⟨wo, rfl⟩ : ∃ wo : World, wo = wr := ⟨_, rfl⟩
  obtain ⟨qp, qc, rfl, -, -⟩ := av.open sL.out
  have Lt : Hid (af (fun b => b ≠ tb ∧ P'.ownBlock ≠ some b ∧ N'.ownBlock ≠ some b) wo (.slice qp (eE l set n).length qc) (eE l set n)) := sL.out
  have Lu := aa Z6.out
  have QA := aa hKn.out
  have hke := kF.out _ _ _ hKn.out
  have TG := aa (aJ.keep Gf.out hke)
  have TH := aa (af.keep Qy.out hke)
  have HVNn := aa (ay.keep Lr.out hke)
  have i0 : (0 : Int) ≤ (n : Int) := by omega
  by_cases hlt : n < l.length
  case neg =>
   obtain rfl : n = l.length := by omega
   obtain ⟨LF, I2⟩ : ∃ LF, LF = eE l set l.length := ⟨_, rfl⟩
   rw [← IC] at Lu
   have Z7 : Hid (cz LF ∧ LF.length ≤ 64) := by
    rw [I2]
    exact ⟨⟨uN kB.out.fF _, fun x hx => kB.out.bd x (Dc hx)⟩, by have := Dd l set l.length; have := kI.out.2; omega⟩
   have HLFb : Hid (∀ x ∈ LF, 0 ≤ x ∧ x < (names.length : Int)) := fun x hx => iL.out x (Dc (by rw [← I2]; exact hx))
   have zA : Hid (∀ m, m < LF.length → nh names l d set (m + 1) = nh names l d set m ++ [fR names (gi LF m)]) := fun m hm => by rw [I2] at hm ⊢; exact Tf names l d set hm
   have HGE : Hid (t.app (grR names l (d + 1) set) par = (t.push par ByteArray.empty).apps (nh names l d set LF.length) t.ps.length) := by
    unfold Hid
    rw [Db names l d su.out, ← Ad, I2]
   have HZB : Hid (∀ m, t.ps.length + 1 + sizeRs (nh names l d set m) ≤ 100000) := fun m => by
    have h1 := vO (Lf names l d set m)
    have h2 := Tx.out
    rw [Db names l d su.out, aK] at h2
    omega
   rw [← I2] at Lt
   rw [← I2]
   have wD : Hid (af (fun b => b < wo.heap.size ∧ b ≠ tb ∧ P'.ownBlock ≠ some b ∧ N'.ownBlock ≠ some b) wo (.slice qp LF.length qc) LF) := Lt.out.sub fun b hb hl => ⟨hl, hb⟩
   clear hlt hn I2 Z6 hKn sL hke
   go_wp2_with fail
   go_loopw [16] (fun i wr => ∃ (m : Nat) (P1 N1 : Value), m ≤ LF.length ∧ i = .int .i64 m ∧ Hid (GW tb B0 wr P1 N1 ((t.push par ByteArray.empty).apps (nh names l d set m) t.ps.length)) ∧ Hid (GK tb wo wr P' N' P1 N1)) (fun i _ => LF.length - (intOf i).toNat)
   case atStart => exact ⟨0, P', N', Nat.zero_le _, rfl, Lu.out, GK.refl _ _ _ _⟩
   case round =>
    obtain ⟨m, P1, N1, hm, rfl, Gh, wm⟩ := hrel
    obtain ⟨wk, rfl⟩ : ∃ wk : World, wk = wr := ⟨_, rfl⟩
    have Lx : GK tb w2 wk (.slice pp t.ps.length pc) (.slice np t.ns.length nc) P1 N1 := QA.out.trans wm.out
    have i3 : (0 : Int) ≤ (m : Int) := by omega
    by_cases hlt : m < LF.length
    case neg =>
     obtain rfl : m = LF.length := by omega
     have pL : GW tb B0 wk P1 N1 (t.app (grR names l (d + 1) set) par) := by
      rw [HGE.out]; exact Gh.out
     have zS := Lx
     clear hlt hm Gh wm Lx
     have hcs := pL.cells
     have a0 := hcs.1
     have a1 := hcs.2.1
     have hrb : wk.heap[tb + 1]? = some (Obj.cells #[.slice none 0 0, .slice none 0 0] 39 (0, 0)) :=
      (zS.block (tb + 1) (by rw [cO.out]; omega) (by omega) (fun e => by have := xK.out _ e.symm; omega) (fun e => by have := lQ.out _ e.symm; omega)).trans gu.out
     obtain ⟨r0, r1, r2, r3⟩ : wk.cell? ⟨tb + 1, 0, none⟩ = some (.slice none 0 0) ∧ wk.cell? ⟨tb + 1, 1, none⟩ = some (.slice none 0 0) ∧ wk.frozen? ⟨tb + 1, 0, none⟩ = false ∧ wk.frozen? ⟨tb + 1, 1, none⟩ = false := by
      refine ⟨?_, ?_, ?_, ?_⟩ <;> simp [World.cell?, World.frozen?, hrb]
     have je := aa pL
     have kG := aa zS
     obtain ⟨TF, IZ⟩ : ∃ TF, TF = t.app (grR names l (d + 1) set) par := ⟨_, rfl⟩
     rw [← IZ] at je
     obtain ⟨pq, fD, rfl, -, -⟩ := av.open je.out.tl.bg.ints
     obtain ⟨nq, fE, rfl, -, -⟩ := av.open je.out.tl.bA.strs
     have Gi := aa hrb
     have Qz := aa IZ
     clear hcs pL zS hrb IZ
     go_wp2_with fail
     have bD : ∀ b, b ≠ tb + 1 → ((wk.setCell ⟨tb + 1, 0, none⟩ (.slice pq TF.ps.length fD)).setCell ⟨tb + 1, 1, none⟩ (.slice nq TF.ns.length fE)).heap[b]? = wk.heap[b]? := fun b hb => by rw [blk_setCell_other _ _ _ _ hb, blk_setCell_other _ _ _ _ hb]
     have hheap : ((wk.setCell ⟨tb + 1, 0, none⟩ (.slice pq TF.ps.length fD)).setCell ⟨tb + 1, 1, none⟩ (.slice nq TF.ns.length fE)).heap[tb + 1]? = some (Obj.cells #[.slice pq TF.ps.length fD, .slice nq TF.ns.length fE] 39 (0, 0)) := by
      simp [World.setCell, Array.getElem?_modify, Gi.out]
     have hsf : ((wk.setCell ⟨tb + 1, 0, none⟩ (.slice pq TF.ps.length fD)).setCell ⟨tb + 1, 1, none⟩ (.slice nq TF.ns.length fE)).heap.size = wk.heap.size := by simp [World.size_setCell]
     have hos : ((wk.setCell ⟨tb + 1, 0, none⟩ (.slice pq TF.ps.length fD)).setCell ⟨tb + 1, 1, none⟩ (.slice nq TF.ns.length fE)).os = wk.os ∧ ((wk.setCell ⟨tb + 1, 0, none⟩ (.slice pq TF.ps.length fD)).setCell ⟨tb + 1, 1, none⟩ (.slice nq TF.ns.length fE)).tape = wk.tape ∧ ((wk.setCell ⟨tb + 1, 0, none⟩ (.slice pq TF.ps.length fD)).setCell ⟨tb + 1, 1, none⟩ (.slice nq TF.ns.length fE)).output = wk.output := ⟨rfl, rfl, rfl⟩
     generalize (wk.setCell ⟨tb + 1, 0, none⟩ (.slice pq TF.ps.length fD)).setCell ⟨tb + 1, 1, none⟩ (.slice nq TF.ns.length fE) = wf at *
     have rF : wf.cell? ⟨tb + 1, 0, none⟩ = some (.slice pq TF.ps.length fD) := by simp [World.cell?, hheap]
     have hr1 : wf.cell? ⟨tb + 1, 1, none⟩ = some (.slice nq TF.ns.length fE) := by simp [World.cell?, hheap]
     refine ⟨rfl, .agg #[.slice pq TF.ps.length fD, .slice nq TF.ns.length fE], by simp [results, Tryz.results118, go_sem, rF, hr1], ?_⟩
     have hs2 := cO.out
     have hnp : ∀ b, (Value.slice pq TF.ps.length fD).ownBlock = some b → (Value.slice pp t.ps.length pc).ownBlock = some b ∨ w2.heap.size ≤ b := kG.out.fN
     have hnn : ∀ b, (Value.slice nq TF.ns.length fE).ownBlock = some b → (Value.slice np t.ns.length nc).ownBlock = some b ∨ w2.heap.size ≤ b := kG.out.fO
     have z7 : ∀ b, (Value.slice pq TF.ps.length fD).ownBlock = some b → b ≠ tb + 1 := fun b hb => by
      rcases hnp b hb with h1 | h1
      ·have := xK.out b h1; omega
      ·omega
     have uS : ∀ b, (Value.slice nq TF.ns.length fE).ownBlock = some b → b ≠ tb + 1 := fun b hb => by
      rcases hnn b hb with h1 | h1
      ·have := lQ.out b h1; omega
      ·omega
     have FJ := kG.out.size
     have sD := gR.out
     have hwt := Z5.out
     refine ⟨_, _, rfl, ⟨?_, ?_, je.out.tl.apart⟩, hos.1.trans (kG.out.os.trans sD.os), hos.2.1.trans (kG.out.tape.trans sD.tape), hos.2.2.trans (kG.out.output.trans sD.output), by omega, fun b hb h1 h2 h3 => ?_, fun b hb => ?_, fun b hb => ?_⟩
     ·rw [← Qz.out]; exact je.out.tl.bg.dz fun b hb => bD b (z7 b hb)
     ·rw [← Qz.out]; exact je.out.tl.bA.dz fun b hb => bD b (uS b hb)
     ·rw [bD b (by omega), kG.out.block b (by omega) (by omega) h2 h3]
      exact sD.block b (by omega)
     ·rcases hnp b hb with h1 | h1
      ·exact .inl h1
      ·exact .inr (by omega)
     ·rcases hnn b hb with h1 | h1
      ·exact .inl h1
      ·exact .inr (by omega)
    case pos =>
     obtain ⟨qb, qo, rfl⟩ : ∃ qb qo, qp = some ⟨qb, qo, none⟩ := by
      obtain ⟨_, _, e, _, h⟩ := av.open wD.out
      injection e with e1 e2 e3
      subst e1
      obtain ⟨b, o, h1, _⟩ := h m hlt
      exact ⟨b, o, h1⟩
     have WS : LF.length ≤ qc := by
      obtain ⟨_, _, e, h, _⟩ := av.open wD.out
      injection e with e1 e2 e3
      omega
     have hKS : Kept (fun b => b < wo.heap.size ∧ b ≠ tb ∧ P'.ownBlock ≠ some b ∧ N'.ownBlock ≠ some b) wo wk := wm.out.Bp fun b hb _ => hb.2
     have hone := Tv (af.keep wD.out hKS) hlt
     have QB : ∀ b, (b < wo.heap.size ∧ b ≠ tb ∧ P'.ownBlock ≠ some b ∧ N'.ownBlock ≠ some b) → P1.ownBlock ≠ some b ∧ N1.ownBlock ≠ some b := fun b hb => ⟨fun e => by
      rcases wm.out.fN b e with h | h
      ·exact hb.2.2.1 h
      ·omega, fun e => by
      rcases wm.out.fO b e with h | h
      ·exact hb.2.2.2 h
      ·omega⟩
     obtain ⟨T, hT⟩ : ∃ T, T = (t.push par ByteArray.empty).apps (nh names l d set m) t.ps.length := ⟨_, rfl⟩
     have G9 : 0 < d := by have := HD.out.1; have := kI.out.1; have := su.out; omega
     have OE : Hid (T.app (fR names (gi LF m)) (t.ps.length : Int) = (t.push par ByteArray.empty).apps (nh names l d set (m + 1)) t.ps.length) := by
      unfold Hid; rw [hT, zA.out m hlt]; exact Ac _ _ _ _
     have htl : T.ps.length = t.ps.length + 1 + sizeRs (nh names l d set m) ∧ T.ns.length = t.ns.length + 1 + sizeRs (nh names l d set m) := by
      rw [hT]; unfold aA.apps aA.push
      simp only [List.length_append, List.length_cons, List.length_nil, kC, rI]
      exact ⟨trivial, trivial⟩
     have CL := HZB.out (m + 1)
     rw [zA.out m hlt, Ct] at CL
     have qh : GW tb B0 wk P1 N1 T := by rw [hT]; exact Gh.out
     have AK := kF.out _ _ _ Lx
     have hx := pg hlt
     have dO : Hid (∀ W, Up wk W → Calls Tryz.prog 118 #[.agg #[P1, N1], .slice mp names.length mc, .int .i64 (t.ps.length : Nat), .slice (some ⟨qb, qo + m, none⟩) 1 (qc - m), .slice lp l.length lc] W (xI B0 W P1 N1 T (fR names (gi LF m)) (t.ps.length : Nat))) := fun W hW => by
      rw [← IX names l G9 (gi LF m)]
      exact kr.out [gi LF m] G9 (by simp) ⟨List.pairwise_singleton _ _, fun x h => by rw [List.mem_singleton.1 h]; exact Z7.out.1.bd _ hx⟩ (fun x h => by rw [List.mem_singleton.1 h]; exact HLFb.out _ hx) W P1 N1 _ _ _ T _ (qh.tl.up hW) (Nat.le_trans qh.lo.2 hW.size) (by have := pJ.out; omega) (by rw [IX names l G9]; omega)
       ((ay.keep (ay.keep Lr.out AK) (hW.kept _)).sub fun b hb _ => (od.out _ _ _ Lx b hb).2) ((af.keep hone (hW.kept _)).sub fun b hb _ => QB b hb) ((aJ.keep (aJ.keep Gf.out AK) (hW.kept _)).sub fun b hb _ => (od.out _ _ _ Lx b hb).2)
     have jo := aa qh
     have xm := aa wm.out
     have aM := aa hlt
     have a0 := qh.cells.1
     have a1 := qh.cells.2.1
     have i4 : (m : Int) < (LF.length : Int) := by omega
     have i5 : (m : Int) < 64 := by have := Z7.out.2; omega
     have i6 : (m : Int) + 1 ≤ (qc : Int) := by omega
     have i7 : m + 1 ≤ qc := by omega
     have i8 : (m : Int) ≤ (m : Int) + 1 := by omega
     clear hT htl CL qh AK hlt hm Gh wm Lx QB hone hKS WS G9 hx
     generalize fR names (gi LF m) = r at *
     go_wp2_with fail
     refine dK (by kernel_rfl) 10 (fun w' => w'.cell? ⟨tb, 0, none⟩ = some P1 ∧ w'.cell? ⟨tb, 1, none⟩ = some N1) ⟨a0, a1⟩ (fun hS => ?_)
     simp only [List.size_toArray, List.length_cons, List.length_nil, Nat.reduceAdd, Array.replicate_succ, Array.replicate_zero, List.push_toArray, List.nil_append, List.cons_append]
     refine ag.take (i := 0) (v := ?yL) rfl (by kernel_rfl) (fun _ _ _ h => h) (by rfl) (fun w hSw => ?kY) hS ?yM
     case kY =>
      (try dsimp only at hSw)
      go_simp
      try with_reducible rfl
     try simp only [Act.put, aj, aq, au]
     refine ag.take (i := 1) (v := ?yN) rfl (by kernel_rfl) (fun _ _ _ h => h) (by rfl) (fun w hSw => ?kZ) hS ?yO
     case kZ =>
      (try dsimp only at hSw)
      go_simp
      try with_reducible rfl
     try simp only [Act.put, aj, aq, au]
     refine ag.take (i := 2) (v := ?Bv) rfl (by kernel_rfl) (fun _ _ _ h => h) (by rfl) (fun w hSw => ?nI) hS ?Bw
     case nI =>
      (try dsimp only at hSw)
      go_simp
      try with_reducible rfl
     try simp only [Act.put, aj, aq, au]
     refine ag.take (i := 3) (v := ?Bz) rfl (by kernel_rfl) (fun _ _ _ h => h) (by rfl) (fun w hSw => ?nJ) hS ?BA
     case nJ =>
      (try dsimp only at hSw)
      go_simp
      try with_reducible rfl
     try simp only [Act.put, aj, aq, au]
     refine ag.take (i := 4) (v := ?BB) rfl (by kernel_rfl) (fun _ _ _ h => h) (by rfl) (fun w hSw => ?nK) hS ?BC
     case nK =>
      (try dsimp only at hSw)
      go_simp
      try with_reducible rfl
     try simp only [Act.put, aj, aq, au]
     refine ag.take (i := 5) (v := ?BD) rfl (by kernel_rfl) (fun _ _ _ h => h) (by rfl) (fun w hSw => ?nM) hS ?BF
     case nM =>
      (try dsimp only at hSw)
      go_simp
      try with_reducible rfl
     try simp only [Act.put, aj, aq, au]
     refine ag.take (i := 6) (v := ?Fb) rfl (by kernel_rfl) (fun _ _ _ h => h) (by rfl) (fun w hSw => ?qx) hS ?Fc
     case qx =>
      (try dsimp only at hSw)
      go_simp
      try with_reducible rfl
     try simp only [Act.put, aj, aq, au]
     refine ag.take (i := 7) (v := .slice (some ⟨qb, qo + m, none⟩) 1 (qc - m)) rfl (by kernel_rfl) (fun _ _ _ h => h) (by rfl) (fun w hSw => ?gyS) hS ?grS
     case gyS =>
      go_simp
      have e1 : IntKind.i64.wrap ((m : Int) + 1) = ((m + 1 : Nat) : Int) := by
       simp [IntKind.wrap, IntKind.bits, IntKind.signed]; omega
      rw [e1, if_pos ⟨by omega, by omega⟩, if_pos (by rw [Int.toNat_natCast]; omega), if_neg (by omega), Int.toNat_natCast, show m + 1 - m = 1 by omega]
     try simp only [aj, aq, au]
     refine ag.take (i := 8) (v := ?Ur) rfl (by kernel_rfl) (fun _ _ _ h => h) (by rfl) (fun w hSw => ?BJ) hS ?Us
     case BJ =>
      (try dsimp only at hSw)
      go_simp
      try with_reducible rfl
     try simp only [Act.put, aj, aq, au]
     refine ag.step (i := 9) rfl (by kernel_rfl) (fun K' hK => ?_)
     go_simp
     refine (dO.out _ (Ae wk)).mono ?_
     rintro e w3 ⟨P2, N2, rfl, sR, hK3⟩
     obtain ⟨p2, c2, rfl, -, -⟩ := av.open sR.bg.ints
     obtain ⟨q2, e2, rfl, -, -⟩ := av.open sR.bA.strs
     have hfz := xJ jo.out hK3
     have uv := hfz 0
     have lB := hfz 1
     have hw0 : w3.cell? ⟨tb, 0, none⟩ = some P1 := (World.cell?_of_block (a := ⟨tb, 0, none⟩) (jR jo.out hK3)).trans jo.out.cells.1
     have hw1 : w3.cell? ⟨tb, 1, none⟩ = some N1 := (World.cell?_of_block (a := ⟨tb, 1, none⟩) (jR jo.out hK3)).trans jo.out.cells.2.1
     have eU := aa (jo.out.put (u := T.app r (t.ps.length : Int)) (Me jo.out hK3) (jR jo.out hK3) sR)
     clear hfz sR hK3
     refine hK.out _ _ (aP (by kernel_rfl)) (fun hS => ?_)
     try simp only [aj, aq, au]
     refine ag.step (i := 10) rfl (by kernel_rfl) (fun K' hK => ?_)
     go_simp
     refine hK.out _ _ (aP (by kernel_rfl)) (fun hS => ?_)
     refine ag.done (by kernel_rfl) ?_
     go_wp2_with fail
     go_roundw
     case rel => exact ⟨m + 1, _, _, aM.out, by go_num, by rw [← OE.out]; exact eU.out.1, xm.out.trans eU.out.2⟩
     case measure => have := aM.out; simp [intOf]; omega
  case pos =>
  obtain ⟨lb, lo, rq, rc, rfl, uJ, EE⟩ := dX TG.out hlt
  have QC := aa EE
  have i1 : (n : Int) < (l.length : Int) := by omega
  have i2 : (n : Int) < 64 := by have := iD.out; omega
  have aM := aa hlt
  have lW := aa uJ
  have I3 : Hid (∀ k, k < l.length → (gl l k).length ≤ 1000000) := fun k hk => by have := kQ (dr.out.2 k hk); omega
  have oa := aa (fun W (h : QD wo W) => kS S0 S0 W _ _ _ _ (af.keep QC.out (h.kept _)) (af.keep TH.out (h.kept _)) (I3.out n hlt) (by have := kI.out.2; omega))
  have Vh := aa (fun W (h : QD wo W) => nZ S0 S0 W _ _ _ _ (af.keep QC.out (h.kept _)) (af.keep TH.out (h.kept _)) (I3.out n hlt) (by have := kI.out.2; omega) (dr.out.2 n hlt) kB.out)
  have yB := aa (ZE l set n)
  have Cv := aa (IB names l d set n)
  have zJ := aa (ID l set n)
  clear hlt hn Z6 hKn sL hke EE
  cases b1 : decide (gl l n = set)
  case true =>
   rw [b1] at oa yB
   have je : Hid (pW l set n = false) := by unfold Hid; rw [yB.out]; rfl
   rw [je.out, if_neg (by decide), List.append_nil] at Cv
   rw [je.out, if_neg (by decide)] at zJ
   go_wp2_with fail
   refine (oa.out _ (QD.refl _)).mono ?_
   rintro e w' ⟨rfl, nq, rfl⟩
   go_wp2_with fail
   go_roundw
   case rel => exact ⟨n + 1, P', N', aM.out, by go_num, by unfold Hid; rw [Cv.out]; exact Lu.out.up (Up.drewN _ _), QA.out.up (Up.drewN _ _), by unfold Hid; rw [zJ.out]; exact af.keep Lt.out ((Up.drewN _ _).kept _)⟩
   case measure => have := aM.out; simp [intOf]; omega
  case false =>
   rw [b1] at oa yB
   cases b2 : eA (gl l n) set
   case false =>
    rw [b2] at Vh yB
    have je : Hid (pW l set n = false) := by unfold Hid; rw [yB.out]; rfl
    rw [je.out, if_neg (by decide), List.append_nil] at Cv
    rw [je.out, if_neg (by decide)] at zJ
    go_wp2_with fail
    refine (oa.out _ (QD.refl _)).mono ?_
    rintro e w' ⟨rfl, nq, rfl⟩
    have uJ := (Up.drewN wo nq).cell lW.out
    go_wp2_with fail
    refine (Vh.out _ ((QD.refl _).drewN nq)).mono ?_
    rintro e w' ⟨rfl, hq⟩
    have HQ := aa (Below.trans (Up.drewN wo nq) hq.up)
    clear hq
    go_wp2_with fail
    go_roundw
    case rel => exact ⟨n + 1, P', N', aM.out, by go_num, by unfold Hid; rw [Cv.out]; exact Lu.out.up HQ.out, QA.out.up HQ.out, by unfold Hid; rw [zJ.out]; exact af.keep Lt.out (Up.kept HQ.out _)⟩
    case measure => have := aM.out; simp [intOf]; omega
   case true =>
    rw [b2] at Vh yB
    have je : Hid (pW l set n = zR l set n l.length) := by unfold Hid; rw [yB.out]; rfl
    go_wp2_with fail
    refine (oa.out _ (QD.refl _)).mono ?_
    rintro e w' ⟨rfl, nq, rfl⟩
    have uJ := (Up.drewN wo nq).cell lW.out
    go_wp2_with fail
    refine (Vh.out _ ((QD.refl _).drewN nq)).mono ?_
    rintro e wi ⟨rfl, hq⟩
    have HQ := aa (Below.trans (Up.drewN wo nq) hq.up)
    clear hq uJ
    go_wp2_with fail
    go_loopw [14, 15] (fun s i wr => ∃ j : Nat, j ≤ l.length ∧ i = .int .i64 j ∧ s = .bool (zR l set n j) ∧ Hid (Up wi wr)) (fun _ i _ => l.length - (intOf i).toNat)
    case atStart => exact ⟨0, Nat.zero_le _, rfl, rfl, Up.refl _⟩
    case round =>
     obtain ⟨j, hj, rfl, rfl, hU⟩ := hrel
     obtain ⟨wk, rfl⟩ : ∃ wk : World, wk = wr := ⟨_, rfl⟩
     have HU := aa hU.out
     have qd := aa (Up.trans HQ.out hU.out)
     clear hU
     by_cases iT : j < l.length
     case neg =>
      obtain rfl : j = l.length := by omega
      clear iT hj
      cases b3 : pW l set n
      case false =>
       rw [b3] at je
       rw [← je.out]
       rw [b3, if_neg (by decide), List.append_nil] at Cv
       rw [b3, if_neg (by decide)] at zJ
       go_wp2_with fail
       go_roundw
       case rel => exact ⟨n + 1, P', N', aM.out, by go_num, by unfold Hid; rw [Cv.out]; exact Lu.out.up qd.out, QA.out.up qd.out, by unfold Hid; rw [zJ.out]; exact af.keep Lt.out (Up.kept qd.out _)⟩
       case measure => have := aM.out; simp [intOf]; omega
      case true =>
       rw [b3] at je
       rw [← je.out]
       rw [b3, if_pos rfl] at Cv
       rw [b3, if_pos rfl] at zJ
       obtain ⟨g1, g2, g3⟩ := Wa dr.out.1 kB.out.fF aM.out b3
       obtain ⟨T, hT⟩ : ∃ T, T = (t.push par ByteArray.empty).apps (qg names l d set n) t.ps.length := ⟨_, rfl⟩
       have OE : Hid (T.app (grR names l d (gl l n)) (t.ps.length : Int) = (t.push par ByteArray.empty).apps (qg names l d set (n + 1)) t.ps.length) := by
        unfold Hid; rw [hT, Cv.out]; exact Ac _ _ _ _
       have htl : T.ps.length = t.ps.length + 1 + sizeRs (qg names l d set n) ∧ T.ns.length = t.ns.length + 1 + sizeRs (qg names l d set n) := by
        rw [hT]; unfold aA.apps aA.push
        simp only [List.length_append, List.length_cons, List.length_nil, kC, rI]
        exact ⟨trivial, trivial⟩
       have CL : sizeRs (qg names l d set n) + aK (grR names l d (gl l n)) ≤ sizeRs (nh names l d set (eE l set l.length).length) := by
        have h1 := vO (Wb names l d set (n := n + 1) (m := l.length) aM.out)
        have h2 := vO (Lf names l d set 0)
        rw [IC] at h2
        rw [Cv.out, Ct] at h1
        omega
       have hgr := Db names l d su.out
       have Z8 := Tx.out
       rw [hgr, aK] at Z8
       have qh : GW tb B0 wk P' N' T := by rw [hT]; exact Lu.out.up qd.out
       have Df : GK tb w2 wk (.slice pp t.ps.length pc) (.slice np t.ns.length nc) P' N' := QA.out.up qd.out
       have AK := kF.out _ _ _ Df
       have dO : Hid (∀ W, Up wk W → Calls Tryz.prog 118 #[.agg #[P', N'], .slice mp names.length mc, .int .i64 (t.ps.length : Nat), .slice rq (gl l n).length rc, .slice (some ⟨lb, lo, none⟩) l.length lc] W (xI B0 W P' N' T (grR names l d (gl l n)) (t.ps.length : Nat))) := fun W hW =>
        kr.out (gl l n) (by have := HD.out.1; omega) g2 (dr.out.2 n aM.out) (fun x hx => iL.out x (g3 x hx)) W P' N' _ _ _ T _ (qh.tl.up hW) (Nat.le_trans qh.lo.2 hW.size) (by have := pJ.out; omega) (by omega)
         ((ay.keep (ay.keep Lr.out AK) (hW.kept _)).sub fun b hb _ => (od.out _ _ _ Df b hb).2) ((af.keep (af.keep QC.out (Up.kept qd.out _)) (hW.kept _)).sub fun b hb _ => (od.out _ _ _ Df b hb).2) ((aJ.keep (aJ.keep Gf.out AK) (hW.kept _)).sub fun b hb _ => (od.out _ _ _ Df b hb).2)
       have jo := aa qh
       have A9 := aa Df
       have a0 := qh.cells.1
       have a1 := qh.cells.2.1
       have eH := Up.cell qd.out lW.out
       have HL3 : Hid (af (fun b => b ≠ tb ∧ P'.ownBlock ≠ some b ∧ N'.ownBlock ≠ some b) wk (.slice qp (eE l set n).length qc) (eE l set n)) := af.keep Lt.out (Up.kept qd.out _)
       have Pt : Hid (cz (eE l set n) ∧ (eE l set n).length ≤ 1000000) := ⟨⟨uN kB.out.fF n, fun x hx => kB.out.bd x (Dc hx)⟩, by have := Dd l set n; have := kI.out.2; omega⟩
       clear hT htl CL hgr Z8 qh Df AK g1 g2 g3 b3
       generalize hr : grR names l d (gl l n) = r at *
       clear hr
       go_wp2_with fail
       refine dK (by kernel_rfl) 9 (fun w' => w'.cell? ⟨tb, 0, none⟩ = some P' ∧ w'.cell? ⟨tb, 1, none⟩ = some N' ∧ w'.cell? ⟨lb, lo + n, none⟩ = some (.slice rq (gl l n).length rc)) ⟨a0, a1, eH⟩ (fun hS => ?_)
       simp only [List.size_toArray, List.length_cons, List.length_nil, Nat.reduceAdd, Array.replicate_succ, Array.replicate_zero, List.push_toArray, List.nil_append, List.cons_append]
       refine ag.take (i := 0) (v := ?gv0k3) rfl (by kernel_rfl) (fun _ _ _ h => h) (by rfl) (fun w hSw => ?gy0k3) hS ?gr0k3
       case gy0k3 =>
        (try dsimp only at hSw)
        go_simp
        try with_reducible rfl
       try simp only [Act.put, aj, aq, au]
       refine ag.take (i := 1) (v := ?gv1k3) rfl (by kernel_rfl) (fun _ _ _ h => h) (by rfl) (fun w hSw => ?gy1k3) hS ?gr1k3
       case gy1k3 =>
        (try dsimp only at hSw)
        go_simp
        try with_reducible rfl
       try simp only [Act.put, aj, aq, au]
       refine ag.take (i := 2) (v := ?gv2k3) rfl (by kernel_rfl) (fun _ _ _ h => h) (by rfl) (fun w hSw => ?gy2k3) hS ?gr2k3
       case gy2k3 =>
        (try dsimp only at hSw)
        go_simp
        try with_reducible rfl
       try simp only [Act.put, aj, aq, au]
       refine ag.take (i := 3) (v := ?gv3k3) rfl (by kernel_rfl) (fun _ _ _ h => h) (by rfl) (fun w hSw => ?gy3k3) hS ?gr3k3
       case gy3k3 =>
        (try dsimp only at hSw)
        go_simp
        try with_reducible rfl
       try simp only [Act.put, aj, aq, au]
       refine ag.take (i := 4) (v := ?gv4k3) rfl (by kernel_rfl) (fun _ _ _ h => h) (by rfl) (fun w hSw => ?gy4k3) hS ?gr4k3
       case gy4k3 =>
        (try dsimp only at hSw)
        go_simp
        try with_reducible rfl
       try simp only [Act.put, aj, aq, au]
       refine ag.take (i := 5) (v := ?gv5k3) rfl (by kernel_rfl) (fun _ _ _ h => h) (by rfl) (fun w hSw => ?gy5k3) hS ?gr5k3
       case gy5k3 =>
        (try dsimp only at hSw)
        go_simp
        try with_reducible rfl
       try simp only [Act.put, aj, aq, au]
       refine ag.take (i := 6) (v := ?gv6k3) rfl (by kernel_rfl) (fun _ _ _ h => h) (by rfl) (fun w hSw => ?gy6k3) hS ?gr6k3
       case gy6k3 =>
        (try dsimp only at hSw)
        go_simp
        try with_reducible rfl
       try simp only [Act.put, aj, aq, au]
       refine ag.take (i := 7) (v := ?gv7k3) rfl (by kernel_rfl) (fun _ _ _ h => h) (by rfl) (fun w hSw => ?gy7k3) hS ?gr7k3
       case gy7k3 =>
        (try dsimp only at hSw)
        go_simp
        try with_reducible rfl
       try simp only [Act.put, aj, aq, au]
       refine ag.step (i := 8) rfl (by kernel_rfl) (fun K' hK => ?_)
       go_simp
       refine (dO.out _ (Ae wk)).mono ?_
       rintro e w3 ⟨P2, N2, rfl, sR, hK3⟩
       obtain ⟨p2, c2, rfl, -, -⟩ := av.open sR.bg.ints
       obtain ⟨q2, e2, rfl, -, -⟩ := av.open sR.bA.strs
       have hfz := xJ jo.out hK3
       have uv := hfz 0
       have lB := hfz 1
       have hw0 : w3.cell? ⟨tb, 0, none⟩ = some P' := (World.cell?_of_block (a := ⟨tb, 0, none⟩) (jR jo.out hK3)).trans jo.out.cells.1
       have hw1 : w3.cell? ⟨tb, 1, none⟩ = some N' := (World.cell?_of_block (a := ⟨tb, 1, none⟩) (jR jo.out hK3)).trans jo.out.cells.2.1
       have eU := aa (jo.out.put (u := T.app r (t.ps.length : Int)) (Me jo.out hK3) (jR jo.out hK3) sR)
       clear hfz sR hK3
       refine hK.out _ _ (aP (by kernel_rfl)) (fun hS => ?_)
       try simp only [aj, aq, au]
       refine ag.step (i := 9) rfl (by kernel_rfl) (fun K' hK => ?_)
       go_simp
       refine hK.out _ _ (aP (by kernel_rfl)) (fun hS => ?_)
       refine ag.done (by kernel_rfl) ?_
       have hK4 := A9.out.trans eU.out.2
       obtain ⟨rq4, rc4, Ko, hr4⟩ := wV (aJ.keep Gf.out (kF.out _ _ _ hK4)) aM.out
       have HMIN := aa (Qb _ _ _ _ _ _ _ (af.keep HL3.out (eU.out.2.Bp fun b hb _ => hb)) hr4 Pt.out.2 (I3.out n aM.out) Pt.out.1 (dr.out.2 n aM.out))
       have HK4 := aa hK4
       clear hK4 hr4 hw0 hw1 uv lB a0 a1 eH
       generalize (w3.setCell ⟨tb, 0, none⟩ _).setCell ⟨tb, 1, none⟩ _ = w4 at *
       go_wp2_with fail
       refine HMIN.out.mono ?_
       rintro e w5 ⟨fh, x, rfl, EL⟩
       have gH := aa fh
       have HOX := aa EL
       clear fh EL
       go_wp2_with fail
       go_roundw
       case rel =>
        refine ⟨n + 1, _, _, aM.out, by go_num, by rw [← OE.out]; exact eU.out.1.up gH.out, HK4.out.up gH.out, ?_⟩
        unfold Hid
        rw [zJ.out]
        refine (HOX.out.ints).sub fun b hb _ => ⟨?_, fun e => ?_, fun e => ?_⟩
        ·have := eU.out.1.lt; omega
        ·have := (ax eU.out.1.tl.bg e).2; omega
        ·have := (ax eU.out.1.tl.bA e).2; omega
       case measure => have := aM.out; simp [intOf]; omega
     case pos =>
     obtain ⟨jq, jc, wT, hrj⟩ := wV (aJ.keep TG.out (Up.kept qd.out _)) iT
     have eH := Up.cell qd.out lW.out
     have Vi := aa hrj
     have HRN := aa (af.keep QC.out (Up.kept qd.out _))
     have Z9 := aa (af.keep TH.out (Up.kept qd.out _))
     have i3 : (0 : Int) ≤ (j : Int) := by omega
     have i4 : (j : Int) < (l.length : Int) := by omega
     have i5 : (j : Int) < 64 := by have := iD.out; omega
     have HJ := aa iT
     have jd := aa eH
     have HCJ := aa wT
     have pU : Hid (IE l set n j = (!decide (gl l j = gl l n) && (!decide (gl l j = set) && (eA (gl l n) (gl l j) && eA (gl l j) set)))) := rfl
     have TI := aa (Tg l set n j)
     have QE : Hid (zR l set n (j + 1) = ((zR l set n j && !IE l set n j) && !Lg l n j)) := by unfold Hid; rw [TI.out, Bool.and_assoc]
     have AL : Hid (Lg l n j = (decide (j < n) && decide (gl l j = gl l n))) := rfl
     have jr : Hid ((gl l n).length ≤ 1000000 ∧ (gl l j).length ≤ 1000000 ∧ set.length ≤ 1000000) := ⟨I3.out n aM.out, I3.out j iT, by have := kI.out.2; omega⟩
     have lH : Hid (∀ mq, Calls Tryz.prog 114 #[.slice jq (gl l j).length jc, .slice rq (gl l n).length rc] (wk.drewN mq) fun e W' => e = .returned (.bool (decide (gl l j = gl l n))) ∧ ∃ q, W' = wk.drewN q) := fun mq => by
      have h := Up.drewN wk mq
      exact (kS S0 S0 (wk.drewN mq) _ _ _ _ (af.keep Vi.out (h.kept _)) (af.keep HRN.out (h.kept _)) jr.out.2.1 jr.out.1).mono (fun e W' ⟨h1, q, h2⟩ => ⟨h1, mq + q, by rw [h2, World.drewN_drewN]⟩)
     have EM : Hid (∀ mq, Calls Tryz.prog 114 #[.slice jq (gl l j).length jc, .slice sp set.length sc] (wk.drewN mq) fun e W' => e = .returned (.bool (decide (gl l j = set))) ∧ ∃ q, W' = wk.drewN q) := fun mq => by
      have h := Up.drewN wk mq
      exact (kS S0 S0 (wk.drewN mq) _ _ _ _ (af.keep Vi.out (h.kept _)) (af.keep Z9.out (h.kept _)) jr.out.2.1 jr.out.2.2).mono (fun e W' ⟨h1, q, h2⟩ => ⟨h1, mq + q, by rw [h2, World.drewN_drewN]⟩)
     have EN : Hid (∀ mq, Calls Tryz.prog 180 #[.slice rq (gl l n).length rc, .slice jq (gl l j).length jc] (wk.drewN mq) fun e W' => e = .returned (.bool (eA (gl l n) (gl l j))) ∧ ∃ q, W' = wk.drewN q) := fun mq => by
      have h := Up.drewN wk mq
      exact (nZ S0 S0 (wk.drewN mq) _ _ _ _ (af.keep HRN.out (h.kept _)) (af.keep Vi.out (h.kept _)) jr.out.1 jr.out.2.1 (dr.out.2 n aM.out) (dr.out.2 j HJ.out)).mono (fun e W' ⟨h1, q, h2⟩ => ⟨h1, mq + q, by rw [h2, World.drewN_drewN]⟩)
     have EO : Hid (∀ mq, Calls Tryz.prog 180 #[.slice jq (gl l j).length jc, .slice sp set.length sc] (wk.drewN mq) fun e W' => e = .returned (.bool (eA (gl l j) set)) ∧ ∃ q, W' = wk.drewN q) := fun mq => by
      have h := Up.drewN wk mq
      exact (nZ S0 S0 (wk.drewN mq) _ _ _ _ (af.keep Vi.out (h.kept _)) (af.keep Z9.out (h.kept _)) jr.out.2.1 jr.out.2.2 (dr.out.2 j HJ.out) kB.out).mono (fun e W' ⟨h1, q, h2⟩ => ⟨h1, mq + q, by rw [h2, World.drewN_drewN]⟩)
     clear hrj iT hj
     go_wp2_with fail
     go_cut [111] from 74 to 111 (fun s111 wx => s111 = .bool (IE l set n j) ∧ Hid (Up wi wx))
     case first =>
      clear QE TI
      generalize zR l set n j = bz at *
      cases y1 : decide (gl l j = gl l n)
      case true =>
       rw [y1] at lH pU
       clear y1
       go_big_quiet (first | with_reducible exact lH.out _ | with_reducible exact EM.out _ | with_reducible exact EN.out _ | with_reducible exact EO.out _)
       go_wp2_with fail
       go_meet
       case rel => exact ⟨by rw [pU.out]; simp, HU.out.trans (Up.drewN _ _)⟩
      case false =>
      rw [y1] at lH pU
      clear y1
      cases y2 : decide (gl l j = set)
      case true =>
       rw [y2] at EM pU
       clear y2
       go_big_quiet (first | with_reducible exact lH.out _ | with_reducible exact EM.out _ | with_reducible exact EN.out _ | with_reducible exact EO.out _)
       go_wp2_with fail
       go_meet
       case rel => exact ⟨by rw [pU.out]; simp, HU.out.trans (Up.drewN _ _)⟩
      case false =>
      rw [y2] at EM pU
      clear y2
      cases y3 : eA (gl l n) (gl l j)
      case false =>
       rw [y3] at EN pU
       clear y3
       go_big_quiet (first | with_reducible exact lH.out _ | with_reducible exact EM.out _ | with_reducible exact EN.out _ | with_reducible exact EO.out _)
       go_wp2_with fail
       go_meet
       case rel => exact ⟨by rw [pU.out]; simp, HU.out.trans (Up.drewN _ _)⟩
      case true =>
      rw [y3] at EN pU
      clear y3
      cases y4 : eA (gl l j) set
      case false =>
       rw [y4] at EO pU
       clear y4
       go_big_quiet (first | with_reducible exact lH.out _ | with_reducible exact EM.out _ | with_reducible exact EN.out _ | with_reducible exact EO.out _)
       go_wp2_with fail
       go_meet
       case rel => exact ⟨by rw [pU.out]; simp, HU.out.trans (Up.drewN _ _)⟩
      case true =>
       rw [y4] at EO pU
       clear y4
       go_big_quiet (first | with_reducible exact lH.out _ | with_reducible exact EM.out _ | with_reducible exact EN.out _ | with_reducible exact EO.out _)
       go_wp2_with fail
       go_meet
       case rel => exact ⟨by rw [pU.out]; simp, HU.out.trans (Up.drewN _ _)⟩
     case rest =>
      obtain ⟨rfl, jK⟩ := hcut
      obtain ⟨wx, rfl⟩ : ∃ wx : World, wx = wc := ⟨_, rfl⟩
      have HUX := aa jK.out
      have jN := aa (Up.trans HQ.out jK.out)
      obtain ⟨jq2, jc2, hcj2, aaa⟩ := wV (aJ.keep TG.out (Up.kept jN.out _)) HJ.out
      have hcn2 := Up.cell jN.out lW.out
      have HRJ2 := aa aaa
      have HRN2 := aa (af.keep QC.out (Up.kept jN.out _))
      have HA5 : Hid (∀ mq, Calls Tryz.prog 114 #[.slice jq2 (gl l j).length jc2, .slice rq (gl l n).length rc] (wx.drewN mq) fun e W' => e = .returned (.bool (decide (gl l j = gl l n))) ∧ ∃ q, W' = wx.drewN q) := fun mq => by
       have h := Up.drewN wx mq
       exact (kS S0 S0 (wx.drewN mq) _ _ _ _ (af.keep HRJ2.out (h.kept _)) (af.keep HRN2.out (h.kept _)) jr.out.2.1 jr.out.1).mono (fun e W' ⟨h1, q, h2⟩ => ⟨h1, mq + q, by rw [h2, World.drewN_drewN]⟩)
      clear jK aaa eH wT lH EM EN EO pU TI
      have HX0 : Hid (∃ xz, xz = IE l set n j) := ⟨_, rfl⟩
      generalize IE l set n j = xz at *
      generalize zR l set n j = bz at *
      by_cases hjn : j < n
      ·have i6 : (j : Int) < (n : Int) := by omega
       rw [decide_eq_true hjn] at AL
       cases y1 : decide (gl l j = gl l n)
       all_goals
        rw [y1] at HA5 AL
        have Hq : Hid (Lg l n j = _) := AL.out
        rw [Hq.out] at QE
        clear y1 AL Hq
        cases xz
        all_goals
         go_wp2_with fail
         go_big_quiet (with_reducible exact HA5.out _)
         go_wp2_with fail
         go_roundw
         case rel => exact ⟨j + 1, HJ.out, by go_num, by rw [QE.out]; simp, HUX.out.trans (Up.drewN _ _)⟩
         case measure => have := HJ.out; simp [intOf]; omega
      ·have i6 : decide ((j : Int) < (n : Int)) = false := decide_eq_false (by omega)
       have i7 : decide (j < n) = false := decide_eq_false hjn
       rw [i7] at AL
       have Hq : Hid (Lg l n j = false) := AL.out
       rw [Hq.out] at QE
       clear AL Hq
       cases xz
       all_goals
        go_wp2_with fail
        go_big_quiet (with_reducible exact HA5.out _)
        go_wp2_with fail
        go_roundw
        case rel => exact ⟨j + 1, HJ.out, by go_num, by rw [QE.out]; simp, HUX.out.trans (Up.drewN _ _)⟩
        case measure => have := HJ.out; simp [intOf]; omega
end Go.Proofs.YtpnmblnahjjmhaaGreat
