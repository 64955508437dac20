/- The contract of layer 32's reference's grow. -/
import Derived.Test.YtpnmblnahjjmhaaGreatQ1
import Derived.Test.YtpnmblnahjjmhaaGreatQ44
import Derived.Deep.CutRange
import Derived.BigQuiet
namespace Go.Proofs.YtpnmblnahjjmhaaGreat
set_option maxRecDepth 100000
open Go.RowKit Go.Deep
theorem CD (a : List RT) (r : RT) : sizeRs (a ++ [r]) = sizeRs a + aS r := by
 induction a with
 | nil => rw [List.nil_append, sizeRs, sizeRs, sizeRs]; omega
 | cons x a ih => rw [List.cons_append, sizeRs, sizeRs, ih]; omega
theorem IW (names : List ByteArray) (l : List (List Int)) {d : Nat} (hd : 0 < d) (x : Int) : grR names l d [x] = gE names x := by
 obtain ⟨e, rfl⟩ : ∃ e, d = e + 1 := ⟨d - 1, by omega⟩
 exact Lh names l e x
theorem Ts {S : Nat → Prop} {w : World} {b o cap : Nat} {xs : List Int} (h : an S w (.slice (some ⟨b, o, none⟩) xs.length cap) xs) {m : Nat} (hm : m < xs.length) : an S w (.slice (some ⟨b, o + m, none⟩) 1 (cap - m)) [gi xs m] := by
 obtain ⟨p, c, e, hc, h⟩ := h
 injection e with e1 e2 e3
 subst e1; subst e3
 rcases h with h | ⟨b', o', e4, hS, h⟩
 ·omega
 ·injection e4 with e4
  injection e4 with e5 e6
  subst e5; subst e6
  refine ⟨_, _, rfl, by simp; omega, .inr ⟨b, o + m, rfl, hS, fun k hk => ?_⟩⟩
  have hk : k = 0 := by simp at hk; omega
  subst hk
  exact h m hm
set_option maxHeartbeats 8000000 in
theorem Tt (B0 : Nat) (names : List ByteArray) (l : List (List Int)) (ZW : names.length ≤ 32) (yJ : l.length ≤ 64) (ZX : wh l) (cg : ∀ k, k < l.length → cZ (gl l k)) : ∀ (d : Nat) (set : List Int), set.length ≤ d → set ≠ [] → cZ set → (∀ x ∈ set, 0 ≤ x ∧ x < (names.length : Int)) →
  ∀ (w : World) (P N vn vs vl : Value) (t : aJ) (par : Int), TL B0 w P N t.ps t.ns → B0 ≤ w.heap.size → t.ns.length = t.ps.length → t.ps.length + aS (grR names l d set) ≤ 100000 →
  aG (fun b => P.ownBlock ≠ some b ∧ N.ownBlock ≠ some b) w vn names → an (fun b => P.ownBlock ≠ some b ∧ N.ownBlock ≠ some b) w vs set → aR (fun b => P.ownBlock ≠ some b ∧ N.ownBlock ≠ some b) w vl l →
  Calls Tryz.prog 118 #[.agg #[P, N], vn, .int .i64 par, vs, vl] w (xZ B0 w P N t (grR names l d set) par) := by
 intro d
 induction d with
 | zero => intro set hd hne; exact absurd (List.eq_nil_of_length_eq_zero (by omega)) hne
 | succ d ih =>
 intro set hd hne wP hbd w P N vn vs vl t par uY hB0 hnl SA uZ hvs hvl
 obtain ⟨pp, pc, rfl, -, -⟩ := aC.open uY.bJ.ints
 obtain ⟨np, nc, rfl, -, -⟩ := aC.open uY.bW.strs
 obtain ⟨mp, mc, rfl, -, -⟩ := aC.open uZ
 obtain ⟨sp, sc, rfl, -, -⟩ := aC.open hvs
 obtain ⟨lp, lc, rfl, -, -⟩ := dF hvl
 have uZ : aG _ w (.slice mp names.length mc) names := uZ
 have hvs : an _ w (.slice sp set.length sc) set := hvs
 have hvl : aR _ w (.slice lp l.length lc) l := hvl
 have Gk := Up.alloc w (.cells #[.slice pp t.ps.length pc, .slice np t.ns.length nc] 39)
 have dY := Gk.trans (Up.alloc _ (.cells #[.slice none 0 0, .slice none 0 0] 39))
 have hsz : ((w.alloc (.cells #[.slice pp t.ps.length pc, .slice np t.ns.length nc] 39)).alloc (.cells #[.slice none 0 0, .slice none 0 0] 39)).heap.size = w.heap.size + 2 := by simp
 have cB : ((w.alloc (.cells #[.slice pp t.ps.length pc, .slice np t.ns.length nc] 39)).alloc (.cells #[.slice none 0 0, .slice none 0 0] 39)).heap[w.heap.size]? = some (Obj.cells #[.slice pp t.ps.length pc, .slice np t.ns.length nc] 39 (0, 0)) :=
  (Below.block (Up.alloc (w.alloc (.cells #[.slice pp t.ps.length pc, .slice np t.ns.length nc] 39)) _) w.heap.size (by rw [World.size_alloc]; omega)).trans (World.alloc_heap_new _ _)
 have hrb := lu (w := w.alloc (.cells #[.slice pp t.ps.length pc, .slice np t.ns.length nc] 39)) (P := .slice none 0 0) (N := .slice none 0 0) (T := 39)
 rw [World.size_alloc] at hrb
 have hpl : ∀ b, (Value.slice pp t.ps.length pc).ownBlock = some b → b < w.heap.size := fun b hb => (aD uY.bJ hb).2
 have uh : ∀ b, (Value.slice np t.ns.length nc).ownBlock = some b → b < w.heap.size := fun b hb => (aD uY.bW hb).2
 have HG : Hid (GW w.heap.size B0 ((w.alloc (.cells #[.slice pp t.ps.length pc, .slice np t.ns.length nc] 39)).alloc (.cells #[.slice none 0 0, .slice none 0 0] 39)) (.slice pp t.ps.length pc) (.slice np t.ns.length nc) t) :=
  ⟨cB, uY.up dY, ⟨fun e => by have := hpl _ e; omega, fun e => by have := uh _ e; omega⟩, by omega⟩
 obtain ⟨S0, QB⟩ : ∃ S0 : Nat → Prop, S0 = fun b => b < w.heap.size ∧ (Value.slice pp t.ps.length pc).ownBlock ≠ some b ∧ (Value.slice np t.ns.length nc).ownBlock ≠ some b := ⟨_, rfl⟩
 have Lw : Hid (aG S0 ((w.alloc (.cells #[.slice pp t.ps.length pc, .slice np t.ns.length nc] 39)).alloc (.cells #[.slice none 0 0, .slice none 0 0] 39)) (.slice mp names.length mc) names) := aG.keep (uZ.sub fun b hb hl => by rw [QB]; exact ⟨hl, hb⟩) (dY.kept _)
 have QC : Hid (an S0 ((w.alloc (.cells #[.slice pp t.ps.length pc, .slice np t.ns.length nc] 39)).alloc (.cells #[.slice none 0 0, .slice none 0 0] 39)) (.slice sp set.length sc) set) := an.keep (hvs.sub fun b hb hl => by rw [QB]; exact ⟨hl, hb⟩) (dY.kept _)
 have Gj : Hid (aR S0 ((w.alloc (.cells #[.slice pp t.ps.length pc, .slice np t.ns.length nc] 39)).alloc (.cells #[.slice none 0 0, .slice none 0 0] 39)) (.slice lp l.length lc) l) := aR.keep (hvl.sub fun b hb hl => by rw [QB]; exact ⟨hl, hb⟩) (dY.kept _)
 have k7 := ag ih
 have qu := ag hnl
 have gQ := ag hrb
 have dG := ag hsz
 have iD := ag dY
 have x5 := ag hpl
 have mO := ag uh
 have Tu := ag SA
 have Qc := ag QB
 have HD := ag (And.intro hd hne)
 have lz := ag wP
 have jk := ag hbd
 have AA := HG.out.cells.1
 have ZY := HG.out.cells.2.1
 clear ih uZ hvs hvl Gk dY cB hrb hpl uh uY hnl SA QB hd hne wP hbd
 have ew : Hid (t.ps.length ≤ 1000000 ∧ t.ns.length ≤ 1000000) := by have := Tu.out; have := qu.out; unfold Hid; omega
 have hs0 : set.length ≠ 0 := fun e => HD.out.2 (List.eq_nil_of_length_eq_zero e)
 have Tv : set.length ≤ 64 := lR lz.out
 have lH := ag (And.intro hs0 Tv)
 obtain ⟨w2, K1⟩ : ∃ w2, w2 = (w.alloc (.cells #[.slice pp t.ps.length pc, .slice np t.ns.length nc] 39)).alloc (.cells #[.slice none 0 0, .slice none 0 0] 39) := ⟨_, rfl⟩
 rw [← K1] at HG Lw QC Gj gQ dG iD AA ZY
 by_cases h1 : set.length = 1
 case pos =>
  have d1 : ((set.length : Int) == 1) = true := by rw [h1]; rfl
  obtain ⟨k, hk⟩ : ∃ k : Nat, gi set 0 = (k : Int) := Int.eq_ofNat_of_zero_le (jk.out _ (qj (by omega))).1
  have hkn : k < names.length := by have := (jk.out _ (qj (l := set) (k := 0) (by omega))).2; omega
  have zO : Hid (t.app (grR names l (d + 1) set) par = ⟨t.ps ++ [par], t.ns ++ [gs names k]⟩) := by
   obtain ⟨x, hx⟩ := List.length_eq_one_iff.1 h1
   have h2 : x = (k : Int) := by rw [hx] at hk; simpa [gi] using hk
   unfold Hid
   rw [hx, Lh, h2]
   unfold gE
   rw [← Ay, Av]
   rfl
  have HK := ag hk
  have KY := ag hkn
  have H1 := ag h1
  clear hk hkn h1 hs0 Tv
  aq Tryz.func118, Tryz.ntmps118
  aa (first
   | (bR; rw [← K1]; refine qa w2 rfl _ _ 26 rfl B0 3 (.int .i64 0) 8 Tryz.underlying26 Tryz.gH rfl (by decide) HG.out.tl.bJ rfl (.int .i64 par) (by rw [dG.out]; rfl) rfl t.ps.length (List.length_map _) ew.out.1 HG.out.lo.2 ?_; intro g8 jD w8 mZ pQ Lx; obtain ⟨KI, Po⟩ := HG.out.CA mZ pQ Lx; have IX := HG.out.U5 mZ pQ Lx; have mR := IX.1.cells; obtain ⟨Tw, Tx, Ty, Tz⟩ := mR; have s7 := ag IX; clear IX; generalize Ct : w8.setCell ⟨w.heap.size, 0, none⟩ (.slice (some ⟨g8, 0, none⟩) (t.ps.length + 1) jD) = w9 at *))
  generalize htb : w.heap.size = tb at *
  have ZZ : Hid (w.heap.size = tb) := htb
  clear Ct
  have lE : Hid (∀ (W : World) (P' N' : Value), GK tb w2 W (.slice pp t.ps.length pc) (.slice np t.ns.length nc) P' N' → Kept S0 w2 W) := fun W P' N' hk => hk.BF fun b hb _ => by
   rw [Qc.out] at hb; exact ⟨by omega, hb.2⟩
  obtain ⟨sb, so, rfl⟩ : ∃ sb so, sp = some ⟨sb, so, none⟩ := by
   obtain ⟨_, _, e, _, h⟩ := aC.open QC.out
   injection e with e1 e2 e3
   subst e1
   obtain ⟨b, o, h1, _⟩ := h 0 (by have := H1.out; omega)
   exact ⟨b, o, h1⟩
  obtain ⟨mb, mo, rfl⟩ : ∃ mb mo, mp = some ⟨mb, mo, none⟩ := by
   obtain ⟨_, _, e, _, h⟩ := aC.open Lw.out
   injection e with e1 e2 e3
   subst e1
   obtain ⟨b, o, h1, _⟩ := h k KY.out
   exact ⟨b, o, h1⟩
  have cU := ag s7.out.1.box
  have hd := Up.drewN w9 1
  have tv : Hid (RW tb B0 w9 w9.drew (.slice (some ⟨g8, 0, none⟩) (t.ps.length + 1) jD) (.slice np t.ns.length nc) (.slice (some ⟨g8, 0, none⟩) (t.ps.length + 1) jD) (.slice np t.ns.length nc) (t.ps ++ [par]) t.ns) := (RW.start s7.out.1.tl ⟨⟨s7.out.1.lt, s7.out.1.lo.1⟩, s7.out.1.lo.2⟩).up hd
  have gY : Hid (∀ {W : World} {P' N' : Value} {ps' : List Int} {ns' : List ByteArray}, RW tb B0 w9 W (.slice (some ⟨g8, 0, none⟩) (t.ps.length + 1) jD) (.slice np t.ns.length nc) P' N' ps' ns' → W.cell? ⟨tb, 0, none⟩ = some (.slice (some ⟨g8, 0, none⟩) (t.ps.length + 1) jD) ∧ W.cell? ⟨tb, 1, none⟩ = some (.slice np t.ns.length nc) ∧ W.cell? ⟨sb, so, none⟩ = some (.int .i64 (k : Int)) ∧ W.cell? ⟨mb, mo + k, none⟩ = some (.string (gs names k))) := fun h => by
   have hke := lE.out _ _ _ (s7.out.2.trans h.gk)
   have h1 := aC.nG (an.keep QC.out hke) (k := 0) (by have := H1.out; omega)
   have h2 := aC.nG (aG.keep Lw.out hke) (k := k) KY.out
   rw [HK.out] at h1
   exact ⟨(h.cells cU.out).1, (h.cells cU.out).2, h1, h2⟩
  have i1 : (k : Int) < (names.length : Int) := by have := KY.out; omega
  have i2 : (0 : Int) < (set.length : Int) := by have := H1.out; omega
  have i2n : 0 < set.length := by have := H1.out; omega
  have i3 : (0 : Int) ≤ (k : Int) := by omega
  refine eE (by af) 10 (fun w' => w'.cell? ⟨tb, 0, none⟩ = some (.slice (some ⟨g8, 0, none⟩) (t.ps.length + 1) jD) ∧ w'.cell? ⟨tb, 1, none⟩ = some (.slice np t.ns.length nc) ∧ w'.cell? ⟨sb, so, none⟩ = some (.int .i64 (k : Int)) ∧ w'.cell? ⟨mb, mo + k, none⟩ = some (.string (gs names k))) (gY.out tv.out) (fun hS => ?_)
  simp only [List.size_toArray, List.length_cons, List.length_nil, Nat.reduceAdd, Array.replicate_succ, Array.replicate_zero, List.push_toArray, List.nil_append, List.cons_append]
  clear Tw Tx Ty Tz KI Po
  generalize w9.drew = Wd at *
  refine au.take (i := 0) (v := ?DB) rfl (by af) (fun _ _ _ h => h) (by rfl) (fun w av => ?qm) hS ?DC
  case qm =>
   (try dsimp only at av)
   aj
   try ah rfl
  try simp only [Act.put, az, aA, aB]
  refine au.take (i := 1) (v := ?DD) rfl (by af) (fun _ _ _ h => h) (by rfl) (fun w av => ?qn) hS ?DE
  case qn =>
   (try dsimp only at av)
   aj
   try ah rfl
  try simp only [Act.put, az, aA, aB]
  refine au.take (i := 2) (v := ?DF) rfl (by af) (fun _ _ _ h => h) (by rfl) (fun w av => ?qq) hS ?DG
  case qq =>
   (try dsimp only at av)
   aj
   try ah rfl
  try simp only [Act.put, az, aA, aB]
  refine au.take (i := 3) (v := ?NX) rfl (by af) (fun _ _ _ h => h) (by rfl) (fun w av => ?xH) hS ?NY
  case xH =>
   (try dsimp only at av)
   aj
   try ah rfl
  try simp only [Act.put, az, aA, aB]
  refine au.take (i := 4) (v := ?NZ) rfl (by af) (fun _ _ _ h => h) (by rfl) (fun w av => ?xI) hS ?N9
  case xI =>
   (try dsimp only at av)
   aj
   try ah rfl
  try simp only [Act.put, az, aA, aB]
  refine au.take (i := 5) (v := ?J2) rfl (by af) (fun _ _ _ h => h) (by rfl) (fun w av => ?uI) hS ?J3
  case uI =>
   (try dsimp only at av)
   aj
   try ah rfl
  try simp only [Act.put, az, aA, aB]
  refine au.take (i := 6) (v := ?Oa) rfl (by af) (fun _ _ _ h => h) (by rfl) (fun w av => ?xJ) hS ?Ob
  case xJ =>
   (try dsimp only at av)
   aj
   try ah rfl
  try simp only [Act.put, az, aA, aB]
  refine au.take (i := 7) (v := ?J4) rfl (by af) (fun _ _ _ h => h) (by rfl) (fun w av => ?uJ) hS ?J5
  case uJ =>
   (try dsimp only at av)
   aj
   try ah rfl
  try simp only [Act.put, az, aA, aB]
  refine au.step (i := 8) rfl (by af) (fun K' hK => ?_)
  aj
  have kE : Hid (RW tb B0 _ (Wd.alloc (.cells #[.string (gs names k)] 9)) _ _ _ _ _ _) := tv.out.up (Up.alloc _ _)
  refine hK.out _ _ (fun _ => gY.out kE.out) (fun _ => ?_)
  try simp only [az, aA, aB]
  refine au.step (i := 9) rfl (by af) (fun K' hK => ?_)
  refine dK (by rfl) _ _ _ (by rfl) B0 9 _ 16 Tryz.underlying22 Tryz.lC (by rfl) (by decide) (by rfl) kE.out.tl.bW (.string (gs names k)) Wd.heap.size (by rfl) (bI Wd #[.string (gs names k)] 9 0) (by rfl) (by rw [List.length_map]; exact ew.out.2) (Nat.le_trans kE.out.lo.2 kE.out.gk.size) ?_
  intro g2 zK eC ki jb kj _
  have fe : Hid (RW tb B0 _ eC _ _ _ _ _ _) := kE.out.ou ki jb (kj.imp id (fun e => Nat.le_of_eq e.symm))
  refine hK.out _ _ (fun _ => gY.out fe.out) (fun _ => ?_)
  try simp only [Act.put, az, aA, aB]
  obtain ⟨tn, dS⟩ := fe.out.cells cU.out
  have zL := fe.out.frozen cU.out 0
  have ug := fe.out.frozen cU.out 1
  have fR := ag (s7.out.1.Zz (u := ⟨t.ps ++ [par], t.ns ++ [gs names k]⟩) fe.out.gk fe.out.same fe.out.tl)
  refine au.free (i := 10) (v := ?gv10q) rfl (by af) (fun _ _ _ h => h) (by rfl) (fun w => ?gy10q) (bh (by af)) ?gr10q
  case gy10q =>
   aj
   try ah rfl
  try simp only [Act.put, az, aA, aB]
  refine au.step (i := 11) rfl (by af) (fun K' hK => ?_)
  aj
  refine hK.out _ _ (bh (by af)) (fun _ => ?_)
  refine au.done (by af) ?_
  have qv := fR.out.1
  rw [← zO.out] at qv
  have Ag := s7.out.2.trans fR.out.2
  clear tn dS zL ug hd fR
  simp only [List.length_map] at qv Ag ⊢
  generalize eC.setCell ⟨tb, 1, none⟩ (.slice (some ⟨g2, 0, none⟩) (t.ns.length + 1) zK) = wo at *
  obtain ⟨Pf, Nf, qv, Ag⟩ : ∃ Pf Nf, GW tb B0 wo Pf Nf (t.app (grR names l (d + 1) set) par) ∧ GK tb w2 wo (.slice pp t.ps.length pc) (.slice np t.ns.length nc) Pf Nf := ⟨_, _, qv, Ag⟩
  have hcs := qv.cells
  have a0 := hcs.1
  have a1 := hcs.2.1
  have hrb : wo.heap[tb + 1]? = some (Obj.cells #[.slice none 0 0, .slice none 0 0] 39 (0, 0)) :=
   (Ag.block (tb + 1) (by rw [dG.out]; omega) (by omega) (fun e => by have := x5.out _ e.symm; omega) (fun e => by have := mO.out _ e.symm; omega)).trans gQ.out
  obtain ⟨r0, r1, r2, r3⟩ : wo.cell? ⟨tb + 1, 0, none⟩ = some (.slice none 0 0) ∧ wo.cell? ⟨tb + 1, 1, none⟩ = some (.slice none 0 0) ∧ wo.frozen? ⟨tb + 1, 0, none⟩ = false ∧ wo.frozen? ⟨tb + 1, 1, none⟩ = false := by
   refine ⟨?_, ?_, ?_, ?_⟩ <;> simp [World.cell?, World.frozen?, hrb]
  have jI := ag qv
  have lF := ag Ag
  obtain ⟨TF, IY⟩ : ∃ TF, TF = t.app (grR names l (d + 1) set) par := ⟨_, rfl⟩
  rw [← IY] at jI
  obtain ⟨pq, gj, rfl, -, -⟩ := aC.open jI.out.tl.bJ.ints
  obtain ⟨nq, gm, rfl, -, -⟩ := aC.open jI.out.tl.bW.strs
  have Gm := ag hrb
  have QE := ag IY
  clear hcs qv Ag hrb IY
  aa fail
  have cg : ∀ b, b ≠ tb + 1 → ((wo.setCell ⟨tb + 1, 0, none⟩ (.slice pq TF.ps.length gj)).setCell ⟨tb + 1, 1, none⟩ (.slice nq TF.ns.length gm)).heap[b]? = wo.heap[b]? := fun b hb => by rw [blk_setCell_other _ _ _ _ hb, blk_setCell_other _ _ _ _ hb]
  have hheap : ((wo.setCell ⟨tb + 1, 0, none⟩ (.slice pq TF.ps.length gj)).setCell ⟨tb + 1, 1, none⟩ (.slice nq TF.ns.length gm)).heap[tb + 1]? = some (Obj.cells #[.slice pq TF.ps.length gj, .slice nq TF.ns.length gm] 39 (0, 0)) := by
   simp [World.setCell, Array.getElem?_modify, Gm.out]
  have hsf : ((wo.setCell ⟨tb + 1, 0, none⟩ (.slice pq TF.ps.length gj)).setCell ⟨tb + 1, 1, none⟩ (.slice nq TF.ns.length gm)).heap.size = wo.heap.size := by simp [World.size_setCell]
  have hos : ((wo.setCell ⟨tb + 1, 0, none⟩ (.slice pq TF.ps.length gj)).setCell ⟨tb + 1, 1, none⟩ (.slice nq TF.ns.length gm)).os = wo.os ∧ ((wo.setCell ⟨tb + 1, 0, none⟩ (.slice pq TF.ps.length gj)).setCell ⟨tb + 1, 1, none⟩ (.slice nq TF.ns.length gm)).tape = wo.tape ∧ ((wo.setCell ⟨tb + 1, 0, none⟩ (.slice pq TF.ps.length gj)).setCell ⟨tb + 1, 1, none⟩ (.slice nq TF.ns.length gm)).output = wo.output := ⟨rfl, rfl, rfl⟩
  generalize (wo.setCell ⟨tb + 1, 0, none⟩ (.slice pq TF.ps.length gj)).setCell ⟨tb + 1, 1, none⟩ (.slice nq TF.ns.length gm) = wf at *
  have sg : wf.cell? ⟨tb + 1, 0, none⟩ = some (.slice pq TF.ps.length gj) := by simp [World.cell?, hheap]
  have jg : wf.cell? ⟨tb + 1, 1, none⟩ = some (.slice nq TF.ns.length gm) := by simp [World.cell?, hheap]
  refine ⟨rfl, .agg #[.slice pq TF.ps.length gj, .slice nq TF.ns.length gm], by simp [results, Tryz.results118, go_sem, sg, jg], ?_⟩
  have hs2 := dG.out
  have hnp : ∀ b, (Value.slice pq TF.ps.length gj).ownBlock = some b → (Value.slice pp t.ps.length pc).ownBlock = some b ∨ w2.heap.size ≤ b := lF.out.gA
  have hnn : ∀ b, (Value.slice nq TF.ns.length gm).ownBlock = some b → (Value.slice np t.ns.length nc).ownBlock = some b ∨ w2.heap.size ≤ b := lF.out.gB
  have Ar : ∀ b, (Value.slice pq TF.ps.length gj).ownBlock = some b → b ≠ tb + 1 := fun b hb => by
   rcases hnp b hb with h1 | h1
   ·have := x5.out b h1; omega
   ·omega
  have vr : ∀ b, (Value.slice nq TF.ns.length gm).ownBlock = some b → b ≠ tb + 1 := fun b hb => by
   rcases hnn b hb with h1 | h1
   ·have := mO.out b h1; omega
   ·omega
  have FN := lF.out.size
  have s8 := iD.out
  have NP := ZZ.out
  refine ⟨_, _, rfl, ⟨?_, ?_, jI.out.tl.apart⟩, hos.1.trans (lF.out.os.trans s8.os), hos.2.1.trans (lF.out.tape.trans s8.tape), hos.2.2.trans (lF.out.output.trans s8.output), by omega, fun b hb h1 h2 h3 => ?_, fun b hb => ?_, fun b hb => ?_⟩
  ·rw [← QE.out]; exact jI.out.tl.bJ.ef fun b hb => cg b (Ar b hb)
  ·rw [← QE.out]; exact jI.out.tl.bW.ef fun b hb => cg b (vr b hb)
  ·rw [cg b (by omega), lF.out.block b (by omega) (by omega) h2 h3]
   exact s8.block b (by omega)
  ·rcases hnp b hb with h1 | h1
   ·exact .inl h1
   ·exact .inr (by omega)
  ·rcases hnn b hb with h1 | h1
   ·exact .inl h1
   ·exact .inr (by omega)
 case neg =>
 have d1 : ((set.length : Int) == 1) = false := beq_eq_false_iff_ne.2 (by omega)
 aq Tryz.func118, Tryz.ntmps118
 aa (first
  | (bR; rw [← K1]; refine qa w2 rfl _ _ 26 rfl B0 3 (.int .i64 0) 8 Tryz.underlying26 Tryz.gH rfl (by decide) HG.out.tl.bJ rfl (.int .i64 par) (by rw [dG.out]; rfl) rfl t.ps.length (List.length_map _) ew.out.1 HG.out.lo.2 ?_; intro g8 jD w8 mZ pQ Lx; obtain ⟨KI, Po⟩ := HG.out.CA mZ pQ Lx; have IX := HG.out.U5 mZ pQ Lx; have mR := IX.1.cells; obtain ⟨Tw, Tx, Ty, Tz⟩ := mR; have s7 := ag IX; clear IX; generalize Ct : w8.setCell ⟨w.heap.size, 0, none⟩ (.slice (some ⟨g8, 0, none⟩) (t.ps.length + 1) jD) = w9 at *)
  | (bR; refine qa w9 rfl _ _ 22 rfl B0 9 (.string ⟨#[]⟩) 16 Tryz.underlying22 Tryz.lC rfl (by decide) s7.out.1.tl.bW rfl (.string ⟨#[]⟩) rfl rfl t.ns.length (List.length_map _) ew.out.2 s7.out.1.lo.2 ?_; intro g10 CE o9 IZ Ni AQ; obtain ⟨hc10, hf10⟩ := s7.out.1.M5 IZ Ni AQ; have TA := ag (s7.out.1.pushN IZ Ni AQ)))
 generalize hw11 : o9.setCell ⟨w.heap.size, 1, none⟩ (.slice (some ⟨g10, 0, none⟩) (t.ns.length + 1) CE) = cV at *
 have HG11 : Hid (GW w.heap.size B0 cV (.slice (some ⟨g8, 0, none⟩) (t.ps.length + 1) jD) (.slice (some ⟨g10, 0, none⟩) (t.ns.length + 1) CE) (t.push par ByteArray.empty)) := TA.out.1
 have TB : Hid (GK w.heap.size w2 cV (.slice pp t.ps.length pc) (.slice np t.ns.length nc) (.slice (some ⟨g8, 0, none⟩) (t.ps.length + 1) jD) (.slice (some ⟨g10, 0, none⟩) (t.ns.length + 1) CE)) := s7.out.2.trans TA.out.2
 clear s7 TA HG AA ZY KI Po hc10 hf10 Tw Tx Ty Tz mZ pQ Lx IZ Ni AQ d1
 generalize htb : w.heap.size = tb at *
 have ZZ : Hid (w.heap.size = tb) := htb
 clear Ct hw11
 have dW : Hid (wh l ∧ ∀ k, k < l.length → cZ (gl l k)) := ⟨ZX, cg⟩
 have iY : Hid (l.length ≤ 64) := yJ
 have mz : Hid (names.length ≤ 32) := ZW
 have s0 := ag h1
 have lE : Hid (∀ (W : World) (P' N' : Value), GK tb w2 W (.slice pp t.ps.length pc) (.slice np t.ns.length nc) P' N' → Kept S0 w2 W) := fun W P' N' hk => hk.BF fun b hb _ => by
  rw [Qc.out] at hb; exact ⟨by omega, hb.2⟩
 have oZ : Hid (∀ (W : World) (P' N' : Value), GK tb w2 W (.slice pp t.ps.length pc) (.slice np t.ns.length nc) P' N' → ∀ b, S0 b → b ≠ tb ∧ P'.ownBlock ≠ some b ∧ N'.ownBlock ≠ some b) := fun W P' N' hk b hb => by
  rw [Qc.out] at hb
  have h2 := dG.out
  refine ⟨by omega, fun e => ?_, fun e => ?_⟩
  ·rcases hk.gA b e with h | h
   ·exact hb.2.1 h
   ·omega
  ·rcases hk.gB b e with h | h
   ·exact hb.2.2 h
   ·omega
 have cu : Hid (an (fun b => b ≠ tb ∧ (Value.slice (some ⟨g8, 0, none⟩) (t.ps.length + 1) jD).ownBlock ≠ some b ∧ (Value.slice (some ⟨g10, 0, none⟩) (t.ns.length + 1) CE).ownBlock ≠ some b) cV (.slice sp set.length sc) (fq l set 0)) := (an.keep QC.out (lE.out _ _ _ TB.out)).sub fun b hb _ => oZ.out _ _ _ TB.out b hb
 have rU : Hid (GW tb B0 cV (.slice (some ⟨g8, 0, none⟩) (t.ps.length + 1) jD) (.slice (some ⟨g10, 0, none⟩) (t.ns.length + 1) CE) ((t.push par ByteArray.empty).apps (qP names l d set 0) t.ps.length)) := by
  unfold Hid; rw [show qP names l d set 0 = [] from rfl, Av]; exact HG11.out
 clear ZX cg yJ ZW h1 hs0 Tv
 aV [12, 13] (fun s i wr => ∃ (n : Nat) (P' N' : Value), n ≤ l.length ∧ i = .int .i64 n ∧ Hid (GW tb B0 wr P' N' ((t.push par ByteArray.empty).apps (qP names l d set n) t.ps.length)) ∧ Hid (GK tb w2 wr (.slice pp t.ps.length pc) (.slice np t.ns.length nc) P' N') ∧ Hid (an (fun b => b ≠ tb ∧ P'.ownBlock ≠ some b ∧ N'.ownBlock ≠ some b) wr s (fq l set n))) (fun _ i _ => l.length - (intOf i).toNat)
 case atStart => exact ⟨0, _, _, Nat.zero_le _, rfl, rU.out, TB.out, cu.out⟩
 case round =>
  obtain ⟨n, P', N', hn, rfl, Z0, Vf, tj⟩ := bE
  obtain ⟨wo, rfl⟩ : ∃ wo : World, wo = wr := ⟨_, rfl⟩
  obtain ⟨qp, qc, rfl, -, -⟩ := aC.open tj.out
  have Lz : Hid (an (fun b => b ≠ tb ∧ P'.ownBlock ≠ some b ∧ N'.ownBlock ≠ some b) wo (.slice qp (fq l set n).length qc) (fq l set n)) := tj.out
  have LA := ag Z0.out
  have QF := ag Vf.out
  have hke := lE.out _ _ _ Vf.out
  have TC := ag (aR.keep Gj.out hke)
  have TD := ag (an.keep QC.out hke)
  have HVNn := ag (aG.keep Lw.out hke)
  have i0 : (0 : Int) ≤ (n : Int) := by omega
  by_cases hlt : n < l.length
  case neg =>
   obtain rfl : n = l.length := by omega
   obtain ⟨LF, I1⟩ : ∃ LF, LF = fq l set l.length := ⟨_, rfl⟩
   rw [← IC] at LA
   have Z1 : Hid (cZ LF ∧ LF.length ≤ 64) := by
    rw [I1]
    exact ⟨⟨vj lz.out.gn _, fun x hx => lz.out.bd x (Dm hx)⟩, by have := Dn l set l.length; have := lH.out.2; omega⟩
   have HLFb : Hid (∀ x ∈ LF, 0 ≤ x ∧ x < (names.length : Int)) := fun x hx => jk.out x (Dm (by rw [← I1]; exact hx))
   have zQ : Hid (∀ m, m < LF.length → nY names l d set (m + 1) = nY names l d set m ++ [gE names (gi LF m)]) := fun m hm => by rw [I1] at hm ⊢; exact Td names l d set hm
   have HGE : Hid (t.app (grR names l (d + 1) set) par = (t.push par ByteArray.empty).apps (nY names l d set LF.length) t.ps.length) := by
    unfold Hid
    rw [Dl names l d s0.out, ← Ay, I1]
   have HZB : Hid (∀ m, t.ps.length + 1 + sizeRs (nY names l d set m) ≤ 100000) := fun m => by
    have h1 := wu (Li names l d set m)
    have h2 := Tu.out
    rw [Dl names l d s0.out, aS] at h2
    omega
   rw [← I1] at Lz
   rw [← I1]
   have wS : Hid (an (fun b => b < wo.heap.size ∧ b ≠ tb ∧ P'.ownBlock ≠ some b ∧ N'.ownBlock ≠ some b) wo (.slice qp LF.length qc) LF) := Lz.out.sub fun b hb hl => ⟨hl, hb⟩
   clear hlt hn I1 Z0 Vf tj hke
   aa fail
   aV [16] (fun i wr => ∃ (m : Nat) (P1 N1 : Value), m ≤ LF.length ∧ i = .int .i64 m ∧ Hid (GW tb B0 wr P1 N1 ((t.push par ByteArray.empty).apps (nY names l d set m) t.ps.length)) ∧ Hid (GK tb wo wr P' N' P1 N1)) (fun i _ => LF.length - (intOf i).toNat)
   case atStart => exact ⟨0, P', N', Nat.zero_le _, rfl, LA.out, GK.refl _ _ _ _⟩
   case round =>
    obtain ⟨m, P1, N1, hm, rfl, Gl, wM⟩ := bE
    obtain ⟨wk, rfl⟩ : ∃ wk : World, wk = wr := ⟨_, rfl⟩
    have LB : GK tb w2 wk (.slice pp t.ps.length pc) (.slice np t.ns.length nc) P1 N1 := QF.out.trans wM.out
    have i3 : (0 : Int) ≤ (m : Int) := by omega
    by_cases hlt : m < LF.length
    case neg =>
     obtain rfl : m = LF.length := by omega
     have qv : GW tb B0 wk P1 N1 (t.app (grR names l (d + 1) set) par) := by
      rw [HGE.out]; exact Gl.out
     have Ag := LB
     clear hlt hm Gl wM LB
     have hcs := qv.cells
     have a0 := hcs.1
     have a1 := hcs.2.1
     have hrb : wk.heap[tb + 1]? = some (Obj.cells #[.slice none 0 0, .slice none 0 0] 39 (0, 0)) :=
      (Ag.block (tb + 1) (by rw [dG.out]; omega) (by omega) (fun e => by have := x5.out _ e.symm; omega) (fun e => by have := mO.out _ e.symm; omega)).trans gQ.out
     obtain ⟨r0, r1, r2, r3⟩ : wk.cell? ⟨tb + 1, 0, none⟩ = some (.slice none 0 0) ∧ wk.cell? ⟨tb + 1, 1, none⟩ = some (.slice none 0 0) ∧ wk.frozen? ⟨tb + 1, 0, none⟩ = false ∧ wk.frozen? ⟨tb + 1, 1, none⟩ = false := by
      refine ⟨?_, ?_, ?_, ?_⟩ <;> simp [World.cell?, World.frozen?, hrb]
     have jI := ag qv
     have lF := ag Ag
     obtain ⟨TF, IY⟩ : ∃ TF, TF = t.app (grR names l (d + 1) set) par := ⟨_, rfl⟩
     rw [← IY] at jI
     obtain ⟨pq, gj, rfl, -, -⟩ := aC.open jI.out.tl.bJ.ints
     obtain ⟨nq, gm, rfl, -, -⟩ := aC.open jI.out.tl.bW.strs
     have Gm := ag hrb
     have QE := ag IY
     clear hcs qv Ag hrb IY
     aa fail
     have cg : ∀ b, b ≠ tb + 1 → ((wk.setCell ⟨tb + 1, 0, none⟩ (.slice pq TF.ps.length gj)).setCell ⟨tb + 1, 1, none⟩ (.slice nq TF.ns.length gm)).heap[b]? = wk.heap[b]? := fun b hb => by rw [blk_setCell_other _ _ _ _ hb, blk_setCell_other _ _ _ _ hb]
     have hheap : ((wk.setCell ⟨tb + 1, 0, none⟩ (.slice pq TF.ps.length gj)).setCell ⟨tb + 1, 1, none⟩ (.slice nq TF.ns.length gm)).heap[tb + 1]? = some (Obj.cells #[.slice pq TF.ps.length gj, .slice nq TF.ns.length gm] 39 (0, 0)) := by
      simp [World.setCell, Array.getElem?_modify, Gm.out]
     have hsf : ((wk.setCell ⟨tb + 1, 0, none⟩ (.slice pq TF.ps.length gj)).setCell ⟨tb + 1, 1, none⟩ (.slice nq TF.ns.length gm)).heap.size = wk.heap.size := by simp [World.size_setCell]
     have hos : ((wk.setCell ⟨tb + 1, 0, none⟩ (.slice pq TF.ps.length gj)).setCell ⟨tb + 1, 1, none⟩ (.slice nq TF.ns.length gm)).os = wk.os ∧ ((wk.setCell ⟨tb + 1, 0, none⟩ (.slice pq TF.ps.length gj)).setCell ⟨tb + 1, 1, none⟩ (.slice nq TF.ns.length gm)).tape = wk.tape ∧ ((wk.setCell ⟨tb + 1, 0, none⟩ (.slice pq TF.ps.length gj)).setCell ⟨tb + 1, 1, none⟩ (.slice nq TF.ns.length gm)).output = wk.output := ⟨rfl, rfl, rfl⟩
     generalize (wk.setCell ⟨tb + 1, 0, none⟩ (.slice pq TF.ps.length gj)).setCell ⟨tb + 1, 1, none⟩ (.slice nq TF.ns.length gm) = wf at *
     have sg : wf.cell? ⟨tb + 1, 0, none⟩ = some (.slice pq TF.ps.length gj) := by simp [World.cell?, hheap]
     have jg : wf.cell? ⟨tb + 1, 1, none⟩ = some (.slice nq TF.ns.length gm) := by simp [World.cell?, hheap]
     refine ⟨rfl, .agg #[.slice pq TF.ps.length gj, .slice nq TF.ns.length gm], by simp [results, Tryz.results118, go_sem, sg, jg], ?_⟩
     have hs2 := dG.out
     have hnp : ∀ b, (Value.slice pq TF.ps.length gj).ownBlock = some b → (Value.slice pp t.ps.length pc).ownBlock = some b ∨ w2.heap.size ≤ b := lF.out.gA
     have hnn : ∀ b, (Value.slice nq TF.ns.length gm).ownBlock = some b → (Value.slice np t.ns.length nc).ownBlock = some b ∨ w2.heap.size ≤ b := lF.out.gB
     have Ar : ∀ b, (Value.slice pq TF.ps.length gj).ownBlock = some b → b ≠ tb + 1 := fun b hb => by
      rcases hnp b hb with h1 | h1
      ·have := x5.out b h1; omega
      ·omega
     have vr : ∀ b, (Value.slice nq TF.ns.length gm).ownBlock = some b → b ≠ tb + 1 := fun b hb => by
      rcases hnn b hb with h1 | h1
      ·have := mO.out b h1; omega
      ·omega
     have FN := lF.out.size
     have s8 := iD.out
     have NP := ZZ.out
     refine ⟨_, _, rfl, ⟨?_, ?_, jI.out.tl.apart⟩, hos.1.trans (lF.out.os.trans s8.os), hos.2.1.trans (lF.out.tape.trans s8.tape), hos.2.2.trans (lF.out.output.trans s8.output), by omega, fun b hb h1 h2 h3 => ?_, fun b hb => ?_, fun b hb => ?_⟩
     ·rw [← QE.out]; exact jI.out.tl.bJ.ef fun b hb => cg b (Ar b hb)
     ·rw [← QE.out]; exact jI.out.tl.bW.ef fun b hb => cg b (vr b hb)
     ·rw [cg b (by omega), lF.out.block b (by omega) (by omega) h2 h3]
      exact s8.block b (by omega)
     ·rcases hnp b hb with h1 | h1
      ·exact .inl h1
      ·exact .inr (by omega)
     ·rcases hnn b hb with h1 | h1
      ·exact .inl h1
      ·exact .inr (by omega)
    case pos =>
     obtain ⟨qb, qo, rfl⟩ : ∃ qb qo, qp = some ⟨qb, qo, none⟩ := by
      obtain ⟨_, _, e, _, h⟩ := aC.open wS.out
      injection e with e1 e2 e3
      subst e1
      obtain ⟨b, o, h1, _⟩ := h m hlt
      exact ⟨b, o, h1⟩
     have WO : LF.length ≤ qc := by
      obtain ⟨_, _, e, h, _⟩ := aC.open wS.out
      injection e with e1 e2 e3
      omega
     have hKS : Kept (fun b => b < wo.heap.size ∧ b ≠ tb ∧ P'.ownBlock ≠ some b ∧ N'.ownBlock ≠ some b) wo wk := wM.out.BF fun b hb _ => hb.2
     have hone := Ts (an.keep wS.out hKS) hlt
     have QG : ∀ b, (b < wo.heap.size ∧ b ≠ tb ∧ P'.ownBlock ≠ some b ∧ N'.ownBlock ≠ some b) → P1.ownBlock ≠ some b ∧ N1.ownBlock ≠ some b := fun b hb => ⟨fun e => by
      rcases wM.out.gA b e with h | h
      ·exact hb.2.2.1 h
      ·omega, fun e => by
      rcases wM.out.gB b e with h | h
      ·exact hb.2.2.2 h
      ·omega⟩
     obtain ⟨T, hT⟩ : ∃ T, T = (t.push par ByteArray.empty).apps (nY names l d set m) t.ps.length := ⟨_, rfl⟩
     have Hf : 0 < d := by have := HD.out.1; have := lH.out.1; have := s0.out; omega
     have OL : Hid (T.app (gE names (gi LF m)) (t.ps.length : Int) = (t.push par ByteArray.empty).apps (nY names l d set (m + 1)) t.ps.length) := by
      unfold Hid; rw [hT, zQ.out m hlt]; exact Aw _ _ _ _
     have htl : T.ps.length = t.ps.length + 1 + sizeRs (nY names l d set m) ∧ T.ns.length = t.ns.length + 1 + sizeRs (nY names l d set m) := by
      rw [hT]; unfold aJ.apps aJ.push
      simp only [List.length_append, List.length_cons, List.length_nil, lB, sk]
      exact ⟨trivial, trivial⟩
     have CV := HZB.out (m + 1)
     rw [zQ.out m hlt, CD] at CV
     have qQ : GW tb B0 wk P1 N1 T := by rw [hT]; exact Gl.out
     have A4 := lE.out _ _ _ LB
     have hx := qj hlt
     have eM : Hid (∀ W, Up wk W → Calls Tryz.prog 118 #[.agg #[P1, N1], .slice mp names.length mc, .int .i64 (t.ps.length : Nat), .slice (some ⟨qb, qo + m, none⟩) 1 (qc - m), .slice lp l.length lc] W (xZ B0 W P1 N1 T (gE names (gi LF m)) (t.ps.length : Nat))) := fun W hW => by
      rw [← IW names l Hf (gi LF m)]
      exact k7.out [gi LF m] Hf (by simp) ⟨List.pairwise_singleton _ _, fun x h => by rw [List.mem_singleton.1 h]; exact Z1.out.1.bd _ hx⟩ (fun x h => by rw [List.mem_singleton.1 h]; exact HLFb.out _ hx) W P1 N1 _ _ _ T _ (qQ.tl.up hW) (Nat.le_trans qQ.lo.2 hW.size) (by have := qu.out; omega) (by rw [IW names l Hf]; omega)
       ((aG.keep (aG.keep Lw.out A4) (hW.kept _)).sub fun b hb _ => (oZ.out _ _ _ LB b hb).2) ((an.keep hone (hW.kept _)).sub fun b hb _ => QG b hb) ((aR.keep (aR.keep Gj.out A4) (hW.kept _)).sub fun b hb _ => (oZ.out _ _ _ LB b hb).2)
     have jR := ag qQ
     have xL := ag wM.out
     have aU := ag hlt
     have a0 := qQ.cells.1
     have a1 := qQ.cells.2.1
     have i4 : (m : Int) < (LF.length : Int) := by omega
     have i5 : (m : Int) < 64 := by have := Z1.out.2; omega
     have i6 : (m : Int) + 1 ≤ (qc : Int) := by omega
     have i7 : m + 1 ≤ qc := by omega
     have i8 : (m : Int) ≤ (m : Int) + 1 := by omega
     clear hT htl CV qQ A4 hlt hm Gl wM LB QG hone hKS WO Hf hx
     generalize gE names (gi LF m) = r at *
     aa fail
     refine eE (by af) 10 (fun w' => w'.cell? ⟨tb, 0, none⟩ = some P1 ∧ w'.cell? ⟨tb, 1, none⟩ = some N1) ⟨a0, a1⟩ (fun hS => ?_)
     simp only [List.size_toArray, List.length_cons, List.length_nil, Nat.reduceAdd, Array.replicate_succ, Array.replicate_zero, List.push_toArray, List.nil_append, List.cons_append]
     refine au.take (i := 0) (v := ?y6) rfl (by af) (fun _ _ _ h => h) (by rfl) (fun w av => ?l7) hS ?y7
     case l7 =>
      (try dsimp only at av)
      aj
      try ah rfl
     try simp only [Act.put, az, aA, aB]
     refine au.take (i := 1) (v := ?y8) rfl (by af) (fun _ _ _ h => h) (by rfl) (fun w av => ?l9) hS ?y9
     case l9 =>
      (try dsimp only at av)
      aj
      try ah rfl
     try simp only [Act.put, az, aA, aB]
     refine au.take (i := 2) (v := ?BI) rfl (by af) (fun _ _ _ h => h) (by rfl) (fun w av => ?oD) hS ?BJ
     case oD =>
      (try dsimp only at av)
      aj
      try ah rfl
     try simp only [Act.put, az, aA, aB]
     refine au.take (i := 3) (v := ?BK) rfl (by af) (fun _ _ _ h => h) (by rfl) (fun w av => ?oE) hS ?BL
     case oE =>
      (try dsimp only at av)
      aj
      try ah rfl
     try simp only [Act.put, az, aA, aB]
     refine au.take (i := 4) (v := ?BM) rfl (by af) (fun _ _ _ h => h) (by rfl) (fun w av => ?oF) hS ?BN
     case oF =>
      (try dsimp only at av)
      aj
      try ah rfl
     try simp only [Act.put, az, aA, aB]
     refine au.take (i := 5) (v := ?BO) rfl (by af) (fun _ _ _ h => h) (by rfl) (fun w av => ?oG) hS ?BP
     case oG =>
      (try dsimp only at av)
      aj
      try ah rfl
     try simp only [Act.put, az, aA, aB]
     refine au.take (i := 6) (v := ?Fh) rfl (by af) (fun _ _ _ h => h) (by rfl) (fun w av => ?qY) hS ?Fi
     case qY =>
      (try dsimp only at av)
      aj
      try ah rfl
     try simp only [Act.put, az, aA, aB]
     refine au.take (i := 7) (v := .slice (some ⟨qb, qo + m, none⟩) 1 (qc - m)) rfl (by af) (fun _ _ _ h => h) (by rfl) (fun w av => ?gyS) hS ?grS
     case gyS =>
      aj
      have e1 : IntKind.i64.wrap ((m : Int) + 1) = ((m + 1 : Nat) : Int) := by
       simp [IntKind.wrap, IntKind.bits, IntKind.signed]; omega
      rw [e1, if_pos ⟨by omega, by omega⟩, if_pos (by rw [Int.toNat_natCast]; omega), if_neg (by omega), Int.toNat_natCast, show m + 1 - m = 1 by omega]
     try simp only [az, aA, aB]
     refine au.take (i := 8) (v := ?Un) rfl (by af) (fun _ _ _ h => h) (by rfl) (fun w av => ?BU) hS ?Uo
     case BU =>
      (try dsimp only at av)
      aj
      try ah rfl
     try simp only [Act.put, az, aA, aB]
     refine au.step (i := 9) rfl (by af) (fun K' hK => ?_)
     aj
     refine (eM.out _ (Az wk)).mono ?_
     rintro e w3 ⟨P2, N2, rfl, tw, k8⟩
     obtain ⟨p2, c2, rfl, -, -⟩ := aC.open tw.bJ.ints
     obtain ⟨q2, e2, rfl, -, -⟩ := aC.open tw.bW.strs
     have hfz := x4 jR.out k8
     have uQ := hfz 0
     have mB := hfz 1
     have hw0 : w3.cell? ⟨tb, 0, none⟩ = some P1 := (World.cell?_of_block (a := ⟨tb, 0, none⟩) (kJ jR.out k8)).trans jR.out.cells.1
     have hw1 : w3.cell? ⟨tb, 1, none⟩ = some N1 := (World.cell?_of_block (a := ⟨tb, 1, none⟩) (kJ jR.out k8)).trans jR.out.cells.2.1
     have fH := ag (jR.out.put (u := T.app r (t.ps.length : Int)) (Mg jR.out k8) (kJ jR.out k8) tw)
     clear hfz tw k8
     refine hK.out _ _ (bh (by af)) (fun hS => ?_)
     try simp only [az, aA, aB]
     refine au.step (i := 10) rfl (by af) (fun K' hK => ?_)
     aj
     refine hK.out _ _ (bh (by af)) (fun hS => ?_)
     refine au.done (by af) ?_
     aa fail
     aF
     case rel => exact ⟨m + 1, _, _, aU.out, by aH, by rw [← OL.out]; exact fH.out.1, xL.out.trans fH.out.2⟩
     case measure => have := aU.out; simp [intOf]; omega
  case pos =>
  obtain ⟨lb, lo, rq, rc, rfl, vf, EK⟩ := eX TC.out hlt
  have QH := ag EK
  have i1 : (n : Int) < (l.length : Int) := by omega
  have i2 : (n : Int) < 64 := by have := iY.out; omega
  have aU := ag hlt
  have mU := ag vf
  have I2 : Hid (∀ k, k < l.length → (gl l k).length ≤ 1000000) := fun k hk => by have := lR (dW.out.2 k hk); omega
  have oW := ag (fun W (h : QD wo W) => lT S0 S0 W _ _ _ _ (an.keep QH.out (h.kept _)) (an.keep TD.out (h.kept _)) (I2.out n hlt) (by have := lH.out.2; omega))
  have Vg := ag (fun W (h : QD wo W) => oV S0 S0 W _ _ _ _ (an.keep QH.out (h.kept _)) (an.keep TD.out (h.kept _)) (I2.out n hlt) (by have := lH.out.2; omega) (dW.out.2 n hlt) lz.out)
  have yR := ag (ZA l set n)
  have CF := ag (IB names l d set n)
  have z6 := ag (ID l set n)
  clear hlt hn Z0 Vf tj hke EK
  cases b1 : decide (gl l n = set)
  case true =>
   rw [b1] at oW yR
   have jI : Hid (qD l set n = false) := by unfold Hid; rw [yR.out]; rfl
   rw [jI.out, if_neg (by decide), List.append_nil] at CF
   rw [jI.out, if_neg (by decide)] at z6
   aa fail
   refine (oW.out _ (QD.refl _)).mono ?_
   rintro e w' ⟨rfl, nq, rfl⟩
   aa fail
   aF
   case rel => exact ⟨n + 1, P', N', aU.out, by aH, by unfold Hid; rw [CF.out]; exact LA.out.up (Up.drewN _ _), QF.out.up (Up.drewN _ _), by unfold Hid; rw [z6.out]; exact an.keep Lz.out ((Up.drewN _ _).kept _)⟩
   case measure => have := aU.out; simp [intOf]; omega
  case false =>
   rw [b1] at oW yR
   cases b2 : fh (gl l n) set
   case false =>
    rw [b2] at Vg yR
    have jI : Hid (qD l set n = false) := by unfold Hid; rw [yR.out]; rfl
    rw [jI.out, if_neg (by decide), List.append_nil] at CF
    rw [jI.out, if_neg (by decide)] at z6
    aa fail
    refine (oW.out _ (QD.refl _)).mono ?_
    rintro e w' ⟨rfl, nq, rfl⟩
    have vf := (Up.drewN wo nq).cell mU.out
    aa fail
    refine (Vg.out _ ((QD.refl _).drewN nq)).mono ?_
    rintro e w' ⟨rfl, hq⟩
    have HQ := ag (Below.trans (Up.drewN wo nq) hq.up)
    clear hq
    aa fail
    aF
    case rel => exact ⟨n + 1, P', N', aU.out, by aH, by unfold Hid; rw [CF.out]; exact LA.out.up HQ.out, QF.out.up HQ.out, by unfold Hid; rw [z6.out]; exact an.keep Lz.out (Up.kept HQ.out _)⟩
    case measure => have := aU.out; simp [intOf]; omega
   case true =>
    rw [b2] at Vg yR
    have jI : Hid (qD l set n = Af l set n l.length) := by unfold Hid; rw [yR.out]; rfl
    aa fail
    refine (oW.out _ (QD.refl _)).mono ?_
    rintro e w' ⟨rfl, nq, rfl⟩
    have vf := (Up.drewN wo nq).cell mU.out
    aa fail
    refine (Vg.out _ ((QD.refl _).drewN nq)).mono ?_
    rintro e wi ⟨rfl, hq⟩
    have HQ := ag (Below.trans (Up.drewN wo nq) hq.up)
    clear hq vf
    aa fail
    aV [14, 15] (fun s i wr => ∃ j : Nat, j ≤ l.length ∧ i = .int .i64 j ∧ s = .bool (Af l set n j) ∧ Hid (Up wi wr)) (fun _ i _ => l.length - (intOf i).toNat)
    case atStart => exact ⟨0, Nat.zero_le _, rfl, rfl, Up.refl _⟩
    case round =>
     obtain ⟨j, hj, rfl, rfl, hU⟩ := bE
     obtain ⟨wk, rfl⟩ : ∃ wk : World, wk = wr := ⟨_, rfl⟩
     have HU := ag hU.out
     have qL := ag (Up.trans HQ.out hU.out)
     clear hU
     by_cases jw : j < l.length
     case neg =>
      obtain rfl : j = l.length := by omega
      clear jw hj
      cases b3 : qD l set n
      case false =>
       rw [b3] at jI
       rw [← jI.out]
       rw [b3, if_neg (by decide), List.append_nil] at CF
       rw [b3, if_neg (by decide)] at z6
       aa fail
       aF
       case rel => exact ⟨n + 1, P', N', aU.out, by aH, by unfold Hid; rw [CF.out]; exact LA.out.up qL.out, QF.out.up qL.out, by unfold Hid; rw [z6.out]; exact an.keep Lz.out (Up.kept qL.out _)⟩
       case measure => have := aU.out; simp [intOf]; omega
      case true =>
       rw [b3] at jI
       rw [← jI.out]
       rw [b3, if_pos rfl] at CF
       rw [b3, if_pos rfl] at z6
       obtain ⟨g1, g2, g3⟩ := V9 dW.out.1 lz.out.gn aU.out b3
       obtain ⟨T, hT⟩ : ∃ T, T = (t.push par ByteArray.empty).apps (qP names l d set n) t.ps.length := ⟨_, rfl⟩
       have OL : Hid (T.app (grR names l d (gl l n)) (t.ps.length : Int) = (t.push par ByteArray.empty).apps (qP names l d set (n + 1)) t.ps.length) := by
        unfold Hid; rw [hT, CF.out]; exact Aw _ _ _ _
       have htl : T.ps.length = t.ps.length + 1 + sizeRs (qP names l d set n) ∧ T.ns.length = t.ns.length + 1 + sizeRs (qP names l d set n) := by
        rw [hT]; unfold aJ.apps aJ.push
        simp only [List.length_append, List.length_cons, List.length_nil, lB, sk]
        exact ⟨trivial, trivial⟩
       have CV : sizeRs (qP names l d set n) + aS (grR names l d (gl l n)) ≤ sizeRs (nY names l d set (fq l set l.length).length) := by
        have h1 := wu (Wa names l d set (n := n + 1) (m := l.length) aU.out)
        have h2 := wu (Li names l d set 0)
        rw [IC] at h2
        rw [CF.out, CD] at h1
        omega
       have hgr := Dl names l d s0.out
       have Z3 := Tu.out
       rw [hgr, aS] at Z3
       have qQ : GW tb B0 wk P' N' T := by rw [hT]; exact LA.out.up qL.out
       have Dq : GK tb w2 wk (.slice pp t.ps.length pc) (.slice np t.ns.length nc) P' N' := QF.out.up qL.out
       have A4 := lE.out _ _ _ Dq
       have eM : Hid (∀ W, Up wk W → Calls Tryz.prog 118 #[.agg #[P', N'], .slice mp names.length mc, .int .i64 (t.ps.length : Nat), .slice rq (gl l n).length rc, .slice (some ⟨lb, lo, none⟩) l.length lc] W (xZ B0 W P' N' T (grR names l d (gl l n)) (t.ps.length : Nat))) := fun W hW =>
        k7.out (gl l n) (by have := HD.out.1; omega) g2 (dW.out.2 n aU.out) (fun x hx => jk.out x (g3 x hx)) W P' N' _ _ _ T _ (qQ.tl.up hW) (Nat.le_trans qQ.lo.2 hW.size) (by have := qu.out; omega) (by omega)
         ((aG.keep (aG.keep Lw.out A4) (hW.kept _)).sub fun b hb _ => (oZ.out _ _ _ Dq b hb).2) ((an.keep (an.keep QH.out (Up.kept qL.out _)) (hW.kept _)).sub fun b hb _ => (oZ.out _ _ _ Dq b hb).2) ((aR.keep (aR.keep Gj.out A4) (hW.kept _)).sub fun b hb _ => (oZ.out _ _ _ Dq b hb).2)
       have jR := ag qQ
       have Bo := ag Dq
       have a0 := qQ.cells.1
       have a1 := qQ.cells.2.1
       have fB := Up.cell qL.out mU.out
       have HL3 : Hid (an (fun b => b ≠ tb ∧ P'.ownBlock ≠ some b ∧ N'.ownBlock ≠ some b) wk (.slice qp (fq l set n).length qc) (fq l set n)) := an.keep Lz.out (Up.kept qL.out _)
       have Pw : Hid (cZ (fq l set n) ∧ (fq l set n).length ≤ 1000000) := ⟨⟨vj lz.out.gn n, fun x hx => lz.out.bd x (Dm hx)⟩, by have := Dn l set n; have := lH.out.2; omega⟩
       clear hT htl CV hgr Z3 qQ Dq A4 g1 g2 g3 b3
       generalize hr : grR names l d (gl l n) = r at *
       clear hr
       aa fail
       refine eE (by af) 9 (fun w' => w'.cell? ⟨tb, 0, none⟩ = some P' ∧ w'.cell? ⟨tb, 1, none⟩ = some N' ∧ w'.cell? ⟨lb, lo + n, none⟩ = some (.slice rq (gl l n).length rc)) ⟨a0, a1, fB⟩ (fun hS => ?_)
       simp only [List.size_toArray, List.length_cons, List.length_nil, Nat.reduceAdd, Array.replicate_succ, Array.replicate_zero, List.push_toArray, List.nil_append, List.cons_append]
       refine au.take (i := 0) (v := ?gv0k3) rfl (by af) (fun _ _ _ h => h) (by rfl) (fun w av => ?gy0k3) hS ?gr0k3
       case gy0k3 =>
        (try dsimp only at av)
        aj
        try ah rfl
       try simp only [Act.put, az, aA, aB]
       refine au.take (i := 1) (v := ?gv1k3) rfl (by af) (fun _ _ _ h => h) (by rfl) (fun w av => ?gy1k3) hS ?gr1k3
       case gy1k3 =>
        (try dsimp only at av)
        aj
        try ah rfl
       try simp only [Act.put, az, aA, aB]
       refine au.take (i := 2) (v := ?gv2k3) rfl (by af) (fun _ _ _ h => h) (by rfl) (fun w av => ?gy2k3) hS ?gr2k3
       case gy2k3 =>
        (try dsimp only at av)
        aj
        try ah rfl
       try simp only [Act.put, az, aA, aB]
       refine au.take (i := 3) (v := ?gv3k3) rfl (by af) (fun _ _ _ h => h) (by rfl) (fun w av => ?gy3k3) hS ?gr3k3
       case gy3k3 =>
        (try dsimp only at av)
        aj
        try ah rfl
       try simp only [Act.put, az, aA, aB]
       refine au.take (i := 4) (v := ?gv4k3) rfl (by af) (fun _ _ _ h => h) (by rfl) (fun w av => ?gy4k3) hS ?gr4k3
       case gy4k3 =>
        (try dsimp only at av)
        aj
        try ah rfl
       try simp only [Act.put, az, aA, aB]
       refine au.take (i := 5) (v := ?gv5k3) rfl (by af) (fun _ _ _ h => h) (by rfl) (fun w av => ?gy5k3) hS ?gr5k3
       case gy5k3 =>
        (try dsimp only at av)
        aj
        try ah rfl
       try simp only [Act.put, az, aA, aB]
       refine au.take (i := 6) (v := ?gv6k3) rfl (by af) (fun _ _ _ h => h) (by rfl) (fun w av => ?gy6k3) hS ?gr6k3
       case gy6k3 =>
        (try dsimp only at av)
        aj
        try ah rfl
       try simp only [Act.put, az, aA, aB]
       refine au.take (i := 7) (v := ?gv7k3) rfl (by af) (fun _ _ _ h => h) (by rfl) (fun w av => ?gy7k3) hS ?gr7k3
       case gy7k3 =>
        (try dsimp only at av)
        aj
        try ah rfl
       try simp only [Act.put, az, aA, aB]
       refine au.step (i := 8) rfl (by af) (fun K' hK => ?_)
       aj
       refine (eM.out _ (Az wk)).mono ?_
       rintro e w3 ⟨P2, N2, rfl, tw, k8⟩
       obtain ⟨p2, c2, rfl, -, -⟩ := aC.open tw.bJ.ints
       obtain ⟨q2, e2, rfl, -, -⟩ := aC.open tw.bW.strs
       have hfz := x4 jR.out k8
       have uQ := hfz 0
       have mB := hfz 1
       have hw0 : w3.cell? ⟨tb, 0, none⟩ = some P' := (World.cell?_of_block (a := ⟨tb, 0, none⟩) (kJ jR.out k8)).trans jR.out.cells.1
       have hw1 : w3.cell? ⟨tb, 1, none⟩ = some N' := (World.cell?_of_block (a := ⟨tb, 1, none⟩) (kJ jR.out k8)).trans jR.out.cells.2.1
       have fH := ag (jR.out.put (u := T.app r (t.ps.length : Int)) (Mg jR.out k8) (kJ jR.out k8) tw)
       clear hfz tw k8
       refine hK.out _ _ (bh (by af)) (fun hS => ?_)
       try simp only [az, aA, aB]
       refine au.step (i := 9) rfl (by af) (fun K' hK => ?_)
       aj
       refine hK.out _ _ (bh (by af)) (fun hS => ?_)
       refine au.done (by af) ?_
       have Lo := Bo.out.trans fH.out.2
       obtain ⟨rq4, rc4, Kq, DQ⟩ := xA (aR.keep Gj.out (lE.out _ _ _ Lo)) aU.out
       have HMIN := ag (Qe _ _ _ _ _ _ _ (an.keep HL3.out (fH.out.2.BF fun b hb _ => hb)) DQ Pw.out.2 (I2.out n aU.out) Pw.out.1 (dW.out.2 n aU.out))
       have HK4 := ag Lo
       clear Lo DQ hw0 hw1 uQ mB a0 a1 fB
       generalize (w3.setCell ⟨tb, 0, none⟩ _).setCell ⟨tb, 1, none⟩ _ = w4 at *
       aa fail
       refine HMIN.out.mono ?_
       rintro e w5 ⟨fS, x, rfl, ES⟩
       have ij := ag fS
       have HOX := ag ES
       clear fS ES
       aa fail
       aF
       case rel =>
        refine ⟨n + 1, _, _, aU.out, by aH, by rw [← OL.out]; exact fH.out.1.up ij.out, HK4.out.up ij.out, ?_⟩
        unfold Hid
        rw [z6.out]
        refine (HOX.out.ints).sub fun b hb _ => ⟨?_, fun e => ?_, fun e => ?_⟩
        ·have := fH.out.1.lt; omega
        ·have := (aD fH.out.1.tl.bJ e).2; omega
        ·have := (aD fH.out.1.tl.bW e).2; omega
       case measure => have := aU.out; simp [intOf]; omega
     case pos =>
     obtain ⟨jq, jc, xx, hrj⟩ := xA (aR.keep TC.out (Up.kept qL.out _)) jw
     have fB := Up.cell qL.out mU.out
     have Vh := ag hrj
     have HRN := ag (an.keep QH.out (Up.kept qL.out _))
     have Z4 := ag (an.keep TD.out (Up.kept qL.out _))
     have i3 : (0 : Int) ≤ (j : Int) := by omega
     have i4 : (j : Int) < (l.length : Int) := by omega
     have i5 : (j : Int) < 64 := by have := iY.out; omega
     have HJ := ag jw
     have jH := ag fB
     have HCJ := ag xx
     have qB : Hid (IE l set n j = (!decide (gl l j = gl l n) && (!decide (gl l j = set) && (fh (gl l n) (gl l j) && fh (gl l j) set)))) := rfl
     have TE := ag (Te l set n j)
     have QI : Hid (Af l set n (j + 1) = ((Af l set n j && !IE l set n j) && !Lj l n j)) := by unfold Hid; rw [TE.out, Bool.and_assoc]
     have A5 : Hid (Lj l n j = (decide (j < n) && decide (gl l j = gl l n))) := rfl
     have jS : Hid ((gl l n).length ≤ 1000000 ∧ (gl l j).length ≤ 1000000 ∧ set.length ≤ 1000000) := ⟨I2.out n aU.out, I2.out j jw, by have := lH.out.2; omega⟩
     have mH : Hid (∀ mq, Calls Tryz.prog 114 #[.slice jq (gl l j).length jc, .slice rq (gl l n).length rc] (wk.drewN mq) fun e W' => e = .returned (.bool (decide (gl l j = gl l n))) ∧ ∃ q, W' = wk.drewN q) := fun mq => by
      have h := Up.drewN wk mq
      exact (lT S0 S0 (wk.drewN mq) _ _ _ _ (an.keep Vh.out (h.kept _)) (an.keep HRN.out (h.kept _)) jS.out.2.1 jS.out.1).mono (fun e W' ⟨h1, q, h2⟩ => ⟨h1, mq + q, by rw [h2, World.drewN_drewN]⟩)
     have ET : Hid (∀ mq, Calls Tryz.prog 114 #[.slice jq (gl l j).length jc, .slice sp set.length sc] (wk.drewN mq) fun e W' => e = .returned (.bool (decide (gl l j = set))) ∧ ∃ q, W' = wk.drewN q) := fun mq => by
      have h := Up.drewN wk mq
      exact (lT S0 S0 (wk.drewN mq) _ _ _ _ (an.keep Vh.out (h.kept _)) (an.keep Z4.out (h.kept _)) jS.out.2.1 jS.out.2.2).mono (fun e W' ⟨h1, q, h2⟩ => ⟨h1, mq + q, by rw [h2, World.drewN_drewN]⟩)
     have EU : Hid (∀ mq, Calls Tryz.prog 180 #[.slice rq (gl l n).length rc, .slice jq (gl l j).length jc] (wk.drewN mq) fun e W' => e = .returned (.bool (fh (gl l n) (gl l j))) ∧ ∃ q, W' = wk.drewN q) := fun mq => by
      have h := Up.drewN wk mq
      exact (oV S0 S0 (wk.drewN mq) _ _ _ _ (an.keep HRN.out (h.kept _)) (an.keep Vh.out (h.kept _)) jS.out.1 jS.out.2.1 (dW.out.2 n aU.out) (dW.out.2 j HJ.out)).mono (fun e W' ⟨h1, q, h2⟩ => ⟨h1, mq + q, by rw [h2, World.drewN_drewN]⟩)
     have EV : Hid (∀ mq, Calls Tryz.prog 180 #[.slice jq (gl l j).length jc, .slice sp set.length sc] (wk.drewN mq) fun e W' => e = .returned (.bool (fh (gl l j) set)) ∧ ∃ q, W' = wk.drewN q) := fun mq => by
      have h := Up.drewN wk mq
      exact (oV S0 S0 (wk.drewN mq) _ _ _ _ (an.keep Vh.out (h.kept _)) (an.keep Z4.out (h.kept _)) jS.out.2.1 jS.out.2.2 (dW.out.2 j HJ.out) lz.out).mono (fun e W' ⟨h1, q, h2⟩ => ⟨h1, mq + q, by rw [h2, World.drewN_drewN]⟩)
     clear hrj jw hj
     aa fail
     OK [111] from 74 to 111 (fun s111 wx => s111 = .bool (IE l set n j) ∧ Hid (Up wi wx))
     case first =>
      clear QI TE
      generalize Af l set n j = bz at *
      cases y1 : decide (gl l j = gl l n)
      case true =>
       rw [y1] at mH qB
       clear y1
       cn (first | ah exact mH.out _ | ah exact ET.out _ | ah exact EU.out _ | ah exact EV.out _)
       aa fail
       kK
       case rel => exact ⟨by rw [qB.out]; simp, HU.out.trans (Up.drewN _ _)⟩
      case false =>
      rw [y1] at mH qB
      clear y1
      cases y2 : decide (gl l j = set)
      case true =>
       rw [y2] at ET qB
       clear y2
       cn (first | ah exact mH.out _ | ah exact ET.out _ | ah exact EU.out _ | ah exact EV.out _)
       aa fail
       kK
       case rel => exact ⟨by rw [qB.out]; simp, HU.out.trans (Up.drewN _ _)⟩
      case false =>
      rw [y2] at ET qB
      clear y2
      cases y3 : fh (gl l n) (gl l j)
      case false =>
       rw [y3] at EU qB
       clear y3
       cn (first | ah exact mH.out _ | ah exact ET.out _ | ah exact EU.out _ | ah exact EV.out _)
       aa fail
       kK
       case rel => exact ⟨by rw [qB.out]; simp, HU.out.trans (Up.drewN _ _)⟩
      case true =>
      rw [y3] at EU qB
      clear y3
      cases y4 : fh (gl l j) set
      case false =>
       rw [y4] at EV qB
       clear y4
       cn (first | ah exact mH.out _ | ah exact ET.out _ | ah exact EU.out _ | ah exact EV.out _)
       aa fail
       kK
       case rel => exact ⟨by rw [qB.out]; simp, HU.out.trans (Up.drewN _ _)⟩
      case true =>
       rw [y4] at EV qB
       clear y4
       cn (first | ah exact mH.out _ | ah exact ET.out _ | ah exact EU.out _ | ah exact EV.out _)
       aa fail
       kK
       case rel => exact ⟨by rw [qB.out]; simp, HU.out.trans (Up.drewN _ _)⟩
     case rest =>
      obtain ⟨rfl, kC⟩ := Xf
      obtain ⟨wx, rfl⟩ : ∃ wx : World, wx = wc := ⟨_, rfl⟩
      have HUX := ag kC.out
      have kF := ag (Up.trans HQ.out kC.out)
      obtain ⟨jq2, jc2, hcj2, Z5⟩ := xA (aR.keep TC.out (Up.kept kF.out _)) HJ.out
      have hcn2 := Up.cell kF.out mU.out
      have HRJ2 := ag Z5
      have HRN2 := ag (an.keep QH.out (Up.kept kF.out _))
      have Z6 : Hid (∀ mq, Calls Tryz.prog 114 #[.slice jq2 (gl l j).length jc2, .slice rq (gl l n).length rc] (wx.drewN mq) fun e W' => e = .returned (.bool (decide (gl l j = gl l n))) ∧ ∃ q, W' = wx.drewN q) := fun mq => by
       have h := Up.drewN wx mq
       exact (lT S0 S0 (wx.drewN mq) _ _ _ _ (an.keep HRJ2.out (h.kept _)) (an.keep HRN2.out (h.kept _)) jS.out.2.1 jS.out.1).mono (fun e W' ⟨h1, q, h2⟩ => ⟨h1, mq + q, by rw [h2, World.drewN_drewN]⟩)
      clear kC Z5 fB xx mH ET EU EV qB TE
      have HX0 : Hid (∃ xz, xz = IE l set n j) := ⟨_, rfl⟩
      generalize IE l set n j = xz at *
      generalize Af l set n j = bz at *
      by_cases hjn : j < n
      ·have i6 : (j : Int) < (n : Int) := by omega
       rw [decide_eq_true hjn] at A5
       cases y1 : decide (gl l j = gl l n)
       all_goals
        rw [y1] at Z6 A5
        have Ht : Hid (Lj l n j = _) := A5.out
        rw [Ht.out] at QI
        clear y1 A5 Ht
        cases xz
        all_goals
         aa fail
         cn (ah exact Z6.out _)
         aa fail
         aF
         case rel => exact ⟨j + 1, HJ.out, by aH, by rw [QI.out]; simp, HUX.out.trans (Up.drewN _ _)⟩
         case measure => have := HJ.out; simp [intOf]; omega
      ·have i6 : decide ((j : Int) < (n : Int)) = false := decide_eq_false (by omega)
       have i7 : decide (j < n) = false := decide_eq_false hjn
       rw [i7] at A5
       have Ht : Hid (Lj l n j = false) := A5.out
       rw [Ht.out] at QI
       clear A5 Ht
       cases xz
       all_goals
        aa fail
        cn (ah exact Z6.out _)
        aa fail
        aF
        case rel => exact ⟨j + 1, HJ.out, by aH, by rw [QI.out]; simp, HUX.out.trans (Up.drewN _ _)⟩
        case measure => have := HJ.out; simp [intOf]; omega
end Go.Proofs.YtpnmblnahjjmhaaGreat
