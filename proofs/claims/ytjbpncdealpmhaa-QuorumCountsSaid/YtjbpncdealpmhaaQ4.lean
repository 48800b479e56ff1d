/- QuorumCountsSaid: for every input the law returns true, and each argument reads as it did. No condition. -/
import Derived.Test.YtjbpncdealpmhaaQ3
import Derived.Test.YtjbpncdealpmhaaRow
import Derived.Test.YtjbpncdealpmhaaRows
namespace Go.Proofs.Ytjbpncdealpmhaa
open Go Go.VC Go.ChangeShapes Go.WideShapes Go.ChangeAt Go.RowKit

theorem own : ownKnob Try.prog.godebug = none := by kernel_rfl
theorem laidOut : laidOutB Try.prog = true := by kernel_rfl
theorem und24 : Try.prog.underlying 24 = some (.struct #[⟨ "Voters", 22, 0, false, "", "", 0⟩, ⟨ "Learners", 22, 1, false, "", "", 24⟩]) := by kernel_rfl

theorem grp_of {H : Type} {enc : TypeId × Value → H} {W : World} {b0 : Nat} {v : Value} {d : DataW H} {p : List MemPlace} {r : Reach} (hv : Value.okWide Try.prog W r b0 24 v)
    (h : DataW.Trod enc Try.prog W 0 (fun _ => true) true 24 v d p) : ∃ s t xs ys, v = .agg #[.slice s.a s.len s.cap, .slice t.a t.len t.cap] ∧ RoI (Cx.of W) s xs ∧ RoI (Cx.of W) t ys := by
  obtain ⟨v0, v1, y0, y1, n, rfl, _, _, h0, h1⟩ := Joins.open_agg2 und24 (by kernel_rfl) (by kernel_rfl) hv h
  obtain ⟨a0, l0, c0, e0⟩ := Joins.slice_form Try.underlying22 h0
  obtain ⟨a1, l1, c1, e1⟩ := Joins.slice_form Try.underlying22 h1
  simp only [List.cons.injEq, and_true] at e0 e1
  subst e0 e1
  obtain ⟨xs, hx, _⟩ := roI_of_trod Try.underlying22 Try.underlying3 (by kernel_rfl) h0
  obtain ⟨ys, hy, _⟩ := roI_of_trod Try.underlying22 Try.underlying3 (by kernel_rfl) h1
  exact ⟨⟨a0, l0, c0⟩, ⟨a1, l1, c1⟩, xs, ys, rfl, hx, hy⟩

theorem ints_of {H : Type} {enc : TypeId × Value → H} {W : World} {b0 : Nat} {v : Value} {d : DataW H} {p : List MemPlace} {r : Reach} (hv : Value.okWide Try.prog W r b0 22 v)
    (h : DataW.Trod enc Try.prog W 0 (fun _ => true) true 22 v d p) : ∃ s xs, v = .slice s.a s.len s.cap ∧ RoI (Cx.of W) s xs := by
  obtain ⟨a, l, c, rfl⟩ := okWide_slice Try.underlying22 hv
  obtain ⟨fuel, hf⟩ := h
  obtain ⟨xs, hx, _⟩ := roI_of_trod Try.underlying22 Try.underlying3 (by kernel_rfl) (by simpa [Value.cells] using hf)
  exact ⟨⟨a, l, c⟩, xs, rfl, hx⟩

set_option maxRecDepth 100000 in
theorem counts_lifted (os : Os) (started : os.Started) (H : Type) (enc : TypeId × Value → H) :
    ReturnsInHanded {} Try.checked os 3 .any (Rows.quorumCountsSpec.pre6 enc Try.prog Try.f3 Rows.quorumCountsRow.domain false) (Rows.quorumCountsSpec.post enc Try.prog Try.f3 false true false false) := by
  refine returnsInHanded_of_change (C := Try.checked) own started (by kernel_rfl) Try.func3
    (ChangeSpec.witness6 (enc := enc) (C := Try.checked) false ⟨#[], #[.agg #[.slice none 0 0, .slice none 0 0], .slice none 0 0], []⟩ 8 (by kernel_rfl) (by kernel_rfl) (by kernel_rfl) (by kernel_rfl)) ?_
  intro W base args ds gs before hval0 hW hcnd _
  have hval : ∀ (j : Nat) t v, Try.f3.params[j]? = some t → args[j]? = some v → Value.okWide Try.prog W .any base t v := hval0
  have hW' := hW
  obtain ⟨p, q, hA0, hV, rfl, hfz, hnd⟩ := hW
  have hA : DataW.TrodAll enc Try.prog W 0 (fun _ => true) true Try.f3.params.toList args.toList ds p := hA0
  rw [Try.params3] at hA hval
  obtain ⟨v0, vs0, d0, ds0, p0, q0, hargs, rfl, rfl, h0, r0⟩ := trodAll_cons hA
  obtain ⟨v1, vs1, d1, ds1, p1, q1, rfl, rfl, rfl, h1, r1⟩ := trodAll_cons r0
  obtain ⟨rfl, rfl, rfl⟩ := trodAll_nil r1
  obtain rfl : args = #[v0, v1] := by cases args; simp_all
  obtain ⟨rfl, rfl⟩ := trodVars_none hV
  have lt0 : ∀ x ∈ p0, x.block < W.heap.size := by obtain ⟨m, hm⟩ := h0; exact DataW.trod_lt m _ _ _ hm
  have lt1 : ∀ x ∈ p1, x.block < W.heap.size := by obtain ⟨m, hm⟩ := h1; exact DataW.trod_lt m _ _ _ hm
  have k0 := h0
  have k1 := h1
  obtain ⟨s, t, xs, ys, rfl, hx, hy⟩ := grp_of (hval 0 24 v0 rfl rfl) h0
  obtain ⟨u, zs, rfl, hz⟩ := ints_of (hval 1 22 v1 rfl rfl) h1
  clear hA0 hval0
  refine (counts_spec (Sat.start W) hx hy hz).use fun v W' ⟨hv, hs⟩ => ?_
  subst hv
  have bel := below_of hs
  exact ⟨_, rfl, _, _, _, [], _, [], hW', trodAll_mk1 (shut_bool Try.underlying4 _), (trodAll_cons_mk (Below.trod laidOut (by kernel_rfl) (of_decide_eq_true (by kernel_rfl)) k0 bel lt0) (trodAll_cons_mk (Below.trod laidOut (by kernel_rfl) (of_decide_eq_true (by kernel_rfl)) k1 bel lt1) trodAll_mk0)), rfl, bel.frame _, fun h => by cases h⟩

theorem counts_holds : Rows.QuorumCountsSaid :=
  OpenClaim.holds_of_wide 3 Try.f3 rfl rfl rfl rfl rfl rfl rfl ⟨rfl, rfl, rfl, rfl, rfl⟩ rfl rfl rfl rfl rfl (by kernel_rfl) Try.func3 (by kernel_rfl)
    (of_decide_eq_true (by kernel_rfl)) (by unfold Func.isWrapper; first | (rw [if_pos (by decide +kernel)]; kernel_rfl) | (rw [if_neg (by decide +kernel)]; exact ⟨rfl, rfl⟩))
    (fun os started H enc _ => counts_lifted os started H enc)
#print axioms counts_holds
end Go.Proofs.Ytjbpncdealpmhaa
