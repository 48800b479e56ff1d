/- ROW: from a reading of an argument to what the contracts ask; from a walk's end to 'Below'. No condition. -/
import Derived.Test.YtbniilhfbfcegaaSl2
import Derived.ProofKit
import Derived.OpenShut
import Derived.ShutString
import Derived.ChangeOld
import Derived.Below
import Derived.Lib.SmallJoins
namespace Go.VC
open Go.ChangeShapes Go.WideShapes Go.ChangeAt Go.RowKit

theorem below_of {W W' : World} {Hs : List HP} (h : Sat (Cx.of W) Hs W') : Below W.heap.size W W' := by
  obtain ⟨h1, h2, h3⟩ := h.streams
  have hb : ∀ k, k < W.heap.size → W'.heap[k]? = W.heap[k]? := fun k hk => by
    have : (Cx.of W).m k = some W.heap[k] := by simp [Cx.of, hk]
    rw [h.of_ro this]; simp [hk]
  refine ⟨h1, h2, h3, ?_, hb⟩
  rcases Nat.lt_or_ge W'.heap.size W.heap.size with hl | hl
  · have := hb W'.heap.size hl
    rw [Array.getElem?_eq_none (Nat.le_refl _)] at this
    simp [hl] at this
  · exact hl

theorem block_of_cell {w : World} {a : Addr} {v : Value} (h : w.cell? a = some v) : a.spot = none ∧ ∃ l T fr, w.heap[a.block]? = some (.cells l T fr) ∧ l[a.off]? = some v := by
  unfold World.cell? at h
  split at h
  · rename_i c T fr hb
    split at h
    · cases h
    · rename_i hs
      exact ⟨by simpa using hs, c, T, fr, hb, h⟩
  · cases h

/-- A slice of one-cell elements that was read: told by the cells that hold them. -/
theorem ro_of_cells {W : World} {a : Addr} {n c : Nat} {xs : List Value} (hn : n = xs.length) (hb : xs.length ≤ 9223372036854775807)
    (hc : ∀ i (h : i < xs.length), W.cell? (a.add i) = some xs[i]) : Ro (Cx.of W) ⟨some a, n, c⟩ xs := by
  refine ⟨hn, hb, fun hne => ?_⟩
  have h0 : 0 < xs.length := List.length_pos_iff.2 hne
  have hc0 := hc 0 h0
  simp only [Addr.add, if_true] at hc0
  obtain ⟨hs, l, T, fr, hl, _⟩ := block_of_cell hc0
  refine ⟨a.block, a.off, l, T, fr, ?_, hl, fun i v hv => ?_⟩
  · cases a; simp_all
  · obtain ⟨hi, rfl⟩ := List.getElem?_eq_some_iff.1 hv
    obtain ⟨_, l', T', fr', hl', hx⟩ := block_of_cell (hc i hi)
    have e1 : (a.add i).block = a.block := by unfold Addr.add; split <;> rfl
    have e2 : (a.add i).off = a.off + i := by unfold Addr.add; split <;> simp_all
    rw [e1, hl] at hl'
    cases hl'
    rw [e2] at hx
    exact hx

section
variable {H : Type} {enc : TypeId × Value → H} {P : Program} {W : World} {base : Nat} {spare : Nat → Bool} {held : Bool}

theorem ro_nil {W : World} {c : Nat} : Ro (Cx.of W) ⟨none, 0, c⟩ [] := ⟨rfl, by simp, fun h => absurd rfl h⟩

/-- A slice of ints (64 bits) that came in. -/
theorem roI_of_trod {t e : TypeId} {fuel : Nat} {a : Option Addr} {n c : Nat} {x : DataW H × List MemPlace} (ht : P.underlying t = some (.slice e)) (he : P.underlying e = some (.int .i64)) (hc : P.cellsOf e = 1)
    (h : DataW.trod enc P W base spare held fuel t [.slice a n c] = some x) : ∃ xs, RoI (Cx.of W) ⟨a, n, c⟩ xs ∧ ∀ z ∈ xs, -9223372036854775808 ≤ z ∧ z < 9223372036854775808 := by
  rcases open_ints ht he hc h with ⟨hcs, _⟩ | ⟨x, l, cp, zs, hcs, _, hl, hm, hz, _, hcell, hwz⟩
  · simp at hcs
    obtain ⟨rfl, rfl, rfl⟩ := hcs
    exact ⟨[], ro_nil, fun z hz => by cases hz⟩
  · simp at hcs
    obtain ⟨rfl, rfl, rfl⟩ := hcs
    have hlz : n ≤ zs.length := by rw [hz]; split <;> omega
    refine ⟨zs.take n, ro_of_cells (by simp; omega) ?_ ?_, fun z hz => ?_⟩
    · unfold maxLen at hm; simp; omega
    · intro i hi
      simp at hi
      rw [hcell i (by omega)]
      have : i < zs.length := by omega
      simp [this]
    · have := hwz z (List.mem_of_mem_take hz)
      simp only [Lit.wf] at this
      simp [IntKind.min, IntKind.max, IntKind.bits, IntKind.signed] at this
      omega

end
end Go.VC
