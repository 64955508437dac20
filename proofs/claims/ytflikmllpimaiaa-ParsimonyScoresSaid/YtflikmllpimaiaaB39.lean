/- A copy of a list of lists; the law's closure. -/
import Derived.Test.YtflikmllpimaiaaB31
import Derived.Test.YtflikmllpimaiaaB13
import Derived.Test.YtflikmllpimaiaaB14
namespace Go.Proofs.Ytflikmllpimaiaa
open Go.RowKit Go.Deep
theorem Try.infoSIc : (Try.prog.info? 22).map (fun i => (i.zero, i.size, i.bytes)) = some (some (.slice none 0 0), 1, 24) := by kernel_rfl
def ClrPost (S : Nat → Prop) (w : World) (T : TypeId) (xs : List (List Int)) (en : Ending) (w' : World) : Prop :=
  Up w w' ∧ ∃ u vals, en = .returned u ∧ vals.length = xs.length ∧ Owns w.heap.size T w' u vals ∧ ∀ i, i < xs.length → IntsAt S w' (vals.getD i undef) (gl xs i)
theorem nil_rows {S : Nat → Prop} {w : World} {n cap : Nat} {xs : List (List Int)} (h : RowsAt S w (.slice none n cap) xs) : xs = [] := by
  obtain ⟨f, ⟨q, c, e, _, h⟩, _⟩ := h
  injection e with e1 e2 e3
  rcases h with h | ⟨b, off, h, _⟩
  · exact List.eq_nil_of_length_eq_zero h
  · rw [← e1] at h; cases h
theorem slice_one {u : Value} (h : ∃ p n c, u = .slice p n c) : u.oneCell' = true := by obtain ⟨_, _, _, rfl⟩ := h; rfl
set_option maxRecDepth 100000 in
set_option maxHeartbeats 400000 in
theorem clone_rows_t (S : Nat → Prop) (w : World) (v : Value) (xs : List (List Int)) (h : RowsAt S w v xs) (hn : xs.length ≤ 1000000) :
    Calls Try.prog 31 #[v] w (ClrPost S w 22 xs) := by
  obtain ⟨p, cap, rfl, hcap, _⟩ := rows_open h
  cases p with
  | none =>
    obtain rfl := nil_rows h
    have heq := fun (w : World) => Lib.run_eql_slice_nil (P := Try.prog) w 26 22 none 0 cap 0 0 Try.underlying26
    clear h
    go_enter Try.func31, Try.ntmps31
    go_wp2_with fail
    go_ret
    exact ⟨Up.refl _, _, [], rfl, rfl, Owns.nil _ _ _, fun i hi => absurd hi (Nat.not_lt_zero _)⟩
  | some p =>
    have heq := fun (w : World) => Lib.run_eql_slice_nil (P := Try.prog) w 26 22 (some p) xs.length cap 0 0 Try.underlying26
    have hu := Up.alloc w (.cells #[] 22)
    obtain ⟨f, hsl, hr⟩ := h
    obtain ⟨q, c, e, _, H⟩ := SlAt.open (SlAt.keep hsl (hu.kept S))
    injection e with e1 e2 e3
    subst e1
    have hnl : ((List.range xs.length).map f).length = xs.length := by simp
    have hnews : ∀ j u, ((List.range xs.length).map f)[j]? = some u → (w.alloc (.cells #[] 22)).cell? (p.add j) = some u := fun j u hj => by
      have hj2 : j < xs.length := by
        have := (List.getElem?_eq_some_iff.1 hj).1
        simpa using this
      obtain ⟨b, off, e, hc⟩ := H j hj2
      injection e with e
      subst e
      have hadd : (⟨b, off, none⟩ : Addr).add j = ⟨b, off + j, none⟩ := by unfold Addr.add; split <;> simp_all
      rw [hadd, hc]
      simp [hj2] at hj; rw [hj]
    have hone : ∀ u ∈ (List.range xs.length).map f, u.oneCell' = true := fun u hu2 => by
      obtain ⟨k, hk, rfl⟩ := List.mem_map.1 hu2
      obtain ⟨p', c', e', _⟩ := hr k (List.mem_range.1 hk)
      exact slice_one ⟨_, _, _, e'⟩
    have HU := Lib.hid hu
    have HN := Lib.hid hnews
    have HO := Lib.hid hone
    have HNL := Lib.hid hnl
    have HR := Lib.hid hr
    have HM := Lib.hid (Owns.made w 22)
    clear hsl hr H hnews hu hone hnl e2 e3
    go_enter Try.func31, Try.ntmps31
    go_wp2_with (at_builtin; refine wpList_appS _ rfl _ _ 26 rfl w.heap.size 22 (.slice none 0 0) 24 Try.underlying26 Try.infoSIc rfl (by decide) HM.out rfl p cap ((List.range xs.length).map f) (by rw [HNL.out]; rfl) HN.out HO.out (by rw [HNL.out]; simp; omega) (by simp) ?_; intro v' w' hown' hgrow hbel)
    go_ret
    have hup : Up w w' := Below.trans HU.out hbel
    refine ⟨hup, _, (List.range xs.length).map f, rfl, HNL.out, by simpa using hown', fun i hi => ?_⟩
    have e : ((List.range xs.length).map f).getD i undef = f i := by simp [hi]
    rw [e]; exact (HR.out i hi).keep (hup.kept S)
end Go.Proofs.Ytflikmllpimaiaa
