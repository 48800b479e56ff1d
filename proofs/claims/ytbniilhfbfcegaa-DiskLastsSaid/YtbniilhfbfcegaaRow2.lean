/- ROW, part 2: arguments that came in, by their types: what the contracts ask. No condition. -/
import Derived.Test.YtbniilhfbfcegaaRow
import Derived.Lib.SmallJoins
namespace Go.VC
open Go.ChangeShapes Go.WideShapes Go.ChangeAt Go.RowKit

section
variable {H : Type} {enc : TypeId × Value → H} {P : Program} {W : World} {r : Reach} {b0 : Nat} {t e : TypeId} {v : Value} {d : DataW H} {p : List MemPlace} {n : Nat}

theorem okWide_array (ht : P.underlying t = some (.array n e)) (h : Value.okWide P W r b0 t v) : ∃ cs, v = .agg cs ∧ cs.size = P.cellsOf t := by
  simp only [Value.okWide, ht] at h
  obtain ⟨cs, h1, h2, _⟩ := h
  exact ⟨cs, h1, h2⟩

/-- An array of one-cell elements. -/
theorem arr_in (ht : P.underlying t = some (.array n e)) (hc : P.cellsOf e = 1) (hC : P.cellsOf t = n) (hv : Value.okWide P W r b0 t v) (h : DataW.Trod enc P W 0 (fun _ => true) true t v d p) :
    ∃ cs : List Value, v = .agg cs.toArray ∧ cs.length = n ∧ ∀ c ∈ cs, ∃ m y, DataW.trod enc P W 0 (fun _ => true) true m e [c] = some y := by
  obtain ⟨cs, rfl, hsz⟩ := okWide_array ht hv
  obtain ⟨fuel, hf⟩ := h
  obtain ⟨xs, m, _, _, hl, hx, hi⟩ := DataW.trod_array ht hf
  refine ⟨cs.toList, by simp, by simpa [hC] using hsz, fun c hcm => ?_⟩
  obtain ⟨i, hlt, rfl⟩ := List.getElem_of_mem hcm
  have hin : i < n := by rw [← hC, ← hsz]; simpa using hlt
  have h2 := hi i hin
  rw [hc, Nat.mul_one] at h2
  have e1 : ((Value.agg cs).cells.toList.drop i).take 1 = [cs.toList[i]] := by
    show (cs.toList.drop i).take 1 = _
    rw [List.drop_eq_getElem_cons hlt]; rfl
  rw [e1] at h2
  have : i < xs.length := by omega
  exact ⟨m, xs[i], by rw [h2]; simp [this]⟩

/-- An array of integers. -/
theorem arrI_in {k : IntKind} (ht : P.underlying t = some (.array n e)) (he : P.underlying e = some (.int k)) (hc : P.cellsOf e = 1) (hC : P.cellsOf t = n) (hv : Value.okWide P W r b0 t v) (h : DataW.Trod enc P W 0 (fun _ => true) true t v d p) :
    ∃ A : List Int, A.length = n ∧ v = .agg (A.map (Value.int k)).toArray ∧ ∀ z ∈ A, (Lit.int k z).wf = true := by
  obtain ⟨cs, rfl, hl, hcs⟩ := arr_in ht hc hC hv h
  have : ∀ l : List Value, (∀ c ∈ l, ∃ m y, DataW.trod enc P W 0 (fun _ => true) true m e [c] = some y) → ∃ A : List Int, l = A.map (Value.int k) ∧ ∀ z ∈ A, (Lit.int k z).wf = true := by
    intro l
    induction l with
    | nil => exact fun _ => ⟨[], rfl, by simp⟩
    | cons c l ih =>
      intro hl
      obtain ⟨A, rfl, hA⟩ := ih fun c hc => hl c (List.mem_cons_of_mem _ hc)
      obtain ⟨m, y, hy⟩ := hl c List.mem_cons_self
      obtain ⟨z, hz, _, hw⟩ := DataW.trod_int he hy
      simp only [List.cons.injEq, and_true] at hz
      subst hz
      refine ⟨z :: A, rfl, fun z' hz' => ?_⟩
      rcases List.mem_cons.1 hz' with rfl | hz'
      · exact hw
      · exact hA z' hz'
  obtain ⟨A, rfl, hA⟩ := this cs hcs
  exact ⟨A, by simpa using hl, rfl, hA⟩

/-- A slice of ints. -/
theorem ints_in (ht : P.underlying t = some (.slice e)) (he : P.underlying e = some (.int .i64)) (hc : P.cellsOf e = 1) (hv : Value.okWide P W r b0 t v) (h : DataW.Trod enc P W 0 (fun _ => true) true t v d p) :
    ∃ s xs, v = .slice s.a s.len s.cap ∧ RoI (Cx.of W) s xs ∧ ∀ z ∈ xs, -9223372036854775808 ≤ z ∧ z < 9223372036854775808 := by
  obtain ⟨a, l, c, rfl⟩ := okWide_slice ht hv
  obtain ⟨fuel, hf⟩ := h
  obtain ⟨xs, hx, hb⟩ := roI_of_trod ht he hc (by simpa [Value.cells] using hf)
  exact ⟨⟨a, l, c⟩, xs, rfl, hx, hb⟩

/-- A struct of two slices of ints. -/
theorem two_in {f0 f1 : Field} {e0 e1 : TypeId} (hs : P.underlying t = some (.struct #[f0, f1])) (hone : Deep.oneCellFields P #[f0, f1] = true) (hC : P.cellsOf t = 2)
    (ht0 : P.underlying f0.type = some (.slice e0)) (he0 : P.underlying e0 = some (.int .i64)) (hc0 : P.cellsOf e0 = 1)
    (ht1 : P.underlying f1.type = some (.slice e1)) (he1 : P.underlying e1 = some (.int .i64)) (hc1 : P.cellsOf e1 = 1)
    (hv : Value.okWide P W r b0 t v) (h : DataW.Trod enc P W 0 (fun _ => true) true t v d p) :
    ∃ s t xs ys, v = .agg #[.slice s.a s.len s.cap, .slice t.a t.len t.cap] ∧ RoI (Cx.of W) s xs ∧ RoI (Cx.of W) t ys ∧ (∀ z ∈ xs, -9223372036854775808 ≤ z ∧ z < 9223372036854775808) ∧ (∀ z ∈ ys, -9223372036854775808 ≤ z ∧ z < 9223372036854775808) := by
  obtain ⟨v0, v1, y0, y1, n, rfl, _, _, h0, h1⟩ := Joins.open_agg2 hs hone hC hv h
  obtain ⟨a0, l0, c0, e0⟩ := Joins.slice_form ht0 h0
  obtain ⟨a1, l1, c1, e1⟩ := Joins.slice_form ht1 h1
  simp only [List.cons.injEq, and_true] at e0 e1
  subst e0 e1
  obtain ⟨xs, hx, hbx⟩ := roI_of_trod ht0 he0 hc0 h0
  obtain ⟨ys, hy, hby⟩ := roI_of_trod ht1 he1 hc1 h1
  exact ⟨⟨a0, l0, c0⟩, ⟨a1, l1, c1⟩, xs, ys, rfl, hx, hy, hbx, hby⟩

/-- An array of two slices of ints. -/
theorem arr2S_in {e' : TypeId} (ht : P.underlying t = some (.array 2 e)) (he : P.underlying e = some (.slice e')) (he' : P.underlying e' = some (.int .i64)) (hc' : P.cellsOf e' = 1) (hc : P.cellsOf e = 1) (hC : P.cellsOf t = 2) (hv : Value.okWide P W r b0 t v) (h : DataW.Trod enc P W 0 (fun _ => true) true t v d p) :
    ∃ s t xs ys, v = .agg #[.slice s.a s.len s.cap, .slice t.a t.len t.cap] ∧ RoI (Cx.of W) s xs ∧ RoI (Cx.of W) t ys := by
  obtain ⟨cs, rfl, hl, hcs⟩ := arr_in ht hc hC hv h
  match cs, hl, hcs with
  | [c0, c1], _, hcs =>
    obtain ⟨m0, y0, h0⟩ := hcs c0 (by simp)
    obtain ⟨m1, y1, h1⟩ := hcs c1 (by simp)
    obtain ⟨a0, l0, p0, e0⟩ := Joins.slice_form he h0
    obtain ⟨a1, l1, p1, e1⟩ := Joins.slice_form he h1
    simp only [List.cons.injEq, and_true] at e0 e1
    subst e0 e1
    obtain ⟨xs, hx, _⟩ := roI_of_trod he he' hc' h0
    obtain ⟨ys, hy, _⟩ := roI_of_trod he he' hc' h1
    exact ⟨⟨a0, l0, p0⟩, ⟨a1, l1, p1⟩, xs, ys, rfl, hx, hy⟩

end
end Go.VC
