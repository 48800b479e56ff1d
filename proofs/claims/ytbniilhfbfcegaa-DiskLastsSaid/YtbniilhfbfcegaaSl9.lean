/- SL, part 9: what a call of the library leaves that changes no block that lay before: a new row of cells. No condition. -/
import Derived.Test.YtbniilhfbfcegaaSl8
import Derived.Below
import Derived.Sort.KeysCollected
import Derived.Maps.Own
namespace Go.VC
open Go Go.RowKit

/-- The world w' has all the blocks of w, as they were; the streams are the same. -/
structure Keeps (w w' : World) : Prop where
  os : w'.os = w.os
  tape : w'.tape = w.tape
  output : w'.output = w.output
  block : ∀ k, k < w.heap.size → w'.heap[k]? = w.heap[k]?

theorem Keeps.of_below {w w' : World} (h : Below w.heap.size w w') : Keeps w w' := ⟨h.os, h.tape, h.output, h.block⟩

theorem Sat.keeps : ∀ {Hs : List HP} {R : Cx} {w w' : World}, Sat R Hs w → Keeps w w' → Sat R Hs w'
  | [], _, w, _, h, e => ⟨fun b o hb => by
      have := h.1 b o hb
      rw [e.block b (Array.getElem?_eq_some_iff.1 this).1]; exact this, e.os.trans h.2.1, e.tape.trans h.2.2.1, e.output.trans h.2.2.2⟩
  | _ :: _, _, _, _, h, e => let ⟨h', hH, hd, hs⟩ := h; ⟨h', hH, hd, hs.keeps e⟩

theorem Sat.grewTo : ∀ {Hs : List HP} {R : Cx} {w w' : World} {b : Nat} {o : Obj}, Sat R Hs w → Keeps w w' → w.heap.size ≤ b → w'.heap[b]? = some o → Sat (R.add (Heap.one b o)) Hs w'
  | [], R, w, w', b, o, h, e, hb, ho => by
    refine ⟨fun i x hx => ?_, e.os.trans h.2.1, e.tape.trans h.2.2.1, e.output.trans h.2.2.2⟩
    simp only [Cx.m_add, Heap.add, Heap.one] at hx
    cases hr : R.m i with
    | some y =>
      rw [hr] at hx
      have := h.1 i y hr
      rw [e.block i (Array.getElem?_eq_some_iff.1 this).1, this]
      exact hx
    | none =>
      rw [hr] at hx
      simp only at hx
      split at hx
      · rename_i hi; subst hi; rw [ho]; exact hx
      · cases hx
  | H :: Hs, R, w, w', b, o, h, e, hb, ho => by
    have hR : R.m b = .none := Sat.ro_lt h hb
    obtain ⟨a, hA, hd, hs⟩ := h
    have hadd : (R.add a).m b = .none := Sat.ro_lt hs hb
    have ha : a b = .none := by simpa [Cx.m_add, Heap.add, hR] using hadd
    have := Sat.grewTo hs e hb ho
    have hdis : (Heap.one b o).dis a := by
      intro i hi
      simp only [Heap.one]
      split
      · rename_i h; subst h; exact absurd ha hi
      · rfl
    refine ⟨a, hA, Cx.add_dis hd hdis, ?_⟩
    rw [Cx.add_assoc, Heap.add_comm hdis, ← Cx.add_assoc]
    exact this

theorem Sat.fresh {R : Cx} {Hs : List HP} {w w' : World} {b : Nat} {o : Obj} (h : Sat R Hs w) (e : Keeps w w') (hb : w.heap.size ≤ b) (ho : w'.heap[b]? = some o) : Sat R (pts b o :: Hs) w' :=
  Sat.lend.2 ⟨Sat.ro_lt h hb, Sat.grewTo h e hb ho⟩

/-- A row that a call of the library has made. -/
theorem Sat.ownsRow {R : Cx} {Hs : List HP} {w w' : World} {T : TypeId} {v : Value} {n : Nat} {xs : List Value} (h : Sat R Hs w) (e : Below w.heap.size w w') (hr : w'.ownsRow w.heap.size T 1 v n xs) :
    ∃ s : Sl, v = .slice s.a s.len s.cap ∧ Sat R (Own s T xs :: Hs) w' := by
  obtain ⟨hl, h1 | ⟨g, cap, cur, rfl, hg, hb, hn, hc, hcs, ht⟩⟩ := hr
  · obtain ⟨rfl, rfl⟩ := h1
    have : xs = [] := by simpa using hl
    subst this
    exact ⟨⟨none, 0, 0⟩, rfl, Own.nil (h.keeps (.of_below e))⟩
  · rw [Nat.mul_one] at *
    have h2 := h.fresh (.of_below e) hg hb
    have e1 : cur = (xs ++ cur.toList.drop n).toArray := by
      apply Array.ext'
      rw [← ht]; simp
    rw [e1] at h2
    have h3 := Own.of_pts h2
    refine ⟨_, ?_, h3⟩
    have : (xs ++ cur.toList.drop n).length = cap := by
      have e2 : cur.toList.length = cap := by rw [Array.length_toList]; exact hcs
      rw [List.length_append, List.length_drop, e2, hl]; omega
    simp only [this, hl]

end Go.VC
