/- ROW: from a reading of an argument to what the contracts ask; from a walk's end to 'Below'. No condition. -/
import Derived.Test.YtadnmnkbgjippaaGreatDoorB1
import Derived.ProofKit
import Derived.OpenShut
import Derived.ShutString
import Derived.ChangeOld
import Derived.Below
import Derived.Lib.SmallJoins
import Derived.Test.YtadnmnkbgjippaaGreatDoorB2
namespace Go.VC
set_option linter.unusedVariables false
open Go.ChangeShapes Go.WideShapes Go.ChangeAt Go.RowKit
theorem below_of {W W' : World} {Hs : List HP} (h : Sat (Cx.of W) Hs W') : Below W.heap.size W W' := by
  obtain ⟨h1, h2, h3⟩ := h.streams
  have hb : ∀ k, k < W.heap.size → W'.heap[k]? = W.heap[k]? := fun k hk => by
    have : (Cx.of W).m k = some W.heap[k] := by simp [Cx.of, hk]
    rw [h.of_ro this]; simp [hk]
  refine ⟨h1, h2, h3, ?_, hb⟩
  rcases Nat.lt_or_ge W'.heap.size W.heap.size with hl | hl
  · have := hb W'.heap.size hl
    rw [Array.getElem?_eq_none (Nat.le_refl _)] at this
    simp [hl] at this
  · exact hl
theorem block_of_cell {w : World} {a : Addr} {v : Value} (h : w.cell? a = some v) : a.spot = none ∧ ∃ l T fr, w.heap[a.block]? = some (.cells l T fr) ∧ l[a.off]? = some v := by
  unfold World.cell? at h
  split at h
  · rename_i c T fr hb
    split at h
    · cases h
    · rename_i hs
      exact ⟨by simpa using hs, c, T, fr, hb, h⟩
  · cases h
theorem ro_of_cells {W : World} {a : Addr} {n c : Nat} {xs : List Value} (hn : n = xs.length) (hb : xs.length ≤ 9223372036854775807)
    (hc : ∀ i (h : i < xs.length), W.cell? (a.add i) = some xs[i]) : Ro (Cx.of W) ⟨some a, n, c⟩ xs := by
  refine ⟨hn, hb, fun hne => ?_⟩
  have h0 : 0 < xs.length := List.length_pos_iff.2 hne
  have hc0 := hc 0 h0
  simp only [Addr.add, if_true] at hc0
  obtain ⟨hs, l, T, fr, hl, _⟩ := block_of_cell hc0
  refine ⟨a.block, a.off, l, T, fr, ?_, hl, fun i v hv => ?_⟩
  · cases a; simp_all
  · obtain ⟨hi, rfl⟩ := List.getElem?_eq_some_iff.1 hv
    obtain ⟨_, l', T', fr', hl', hx⟩ := block_of_cell (hc i hi)
    have e1 : (a.add i).block = a.block := by unfold Addr.add; split <;> rfl
    have e2 : (a.add i).off = a.off + i := by unfold Addr.add; split <;> simp_all
    rw [e1, hl] at hl'
    cases hl'
    rw [e2] at hx
    exact hx
section
variable {H : Type} {enc : TypeId × Value → H} {P : Program} {W : World} {base : Nat} {spare : Nat → Bool} {held : Bool}
theorem ro_nil {W : World} {c : Nat} : Ro (Cx.of W) ⟨none, 0, c⟩ [] := ⟨rfl, by simp, fun h => absurd rfl h⟩
theorem roI_of_trod {t e : TypeId} {fuel : Nat} {a : Option Addr} {n c : Nat} {x : DataW H × List MemPlace} (ht : P.underlying t = some (.slice e)) (he : P.underlying e = some (.int .i64)) (hc : P.cellsOf e = 1)
    (h : DataW.trod enc P W base spare held fuel t [.slice a n c] = some x) : ∃ xs, RoI (Cx.of W) ⟨a, n, c⟩ xs ∧ ∀ z ∈ xs, -9223372036854775808 ≤ z ∧ z < 9223372036854775808 := by
  rcases open_ints ht he hc h with ⟨hcs, _⟩ | ⟨x, l, cp, zs, hcs, _, hl, hm, hz, _, hcell, hwz⟩
  · simp at hcs
    obtain ⟨rfl, rfl, rfl⟩ := hcs
    exact ⟨[], ro_nil, fun z hz => by cases hz⟩
  · simp at hcs
    obtain ⟨rfl, rfl, rfl⟩ := hcs
    have hlz : n ≤ zs.length := by rw [hz]; split <;> omega
    refine ⟨zs.take n, ro_of_cells (by simp; omega) ?_ ?_, fun z hz => ?_⟩
    · unfold maxLen at hm; simp; omega
    · intro i hi
      simp at hi
      rw [hcell i (by omega)]
      have : i < zs.length := by omega
      simp [this]
    · have := hwz z (List.mem_of_mem_take hz)
      simp only [Lit.wf] at this
      simp [IntKind.min, IntKind.max, IntKind.bits, IntKind.signed] at this
      omega
end
end Go.VC
/- ROW, part 2: arguments that came in, by their types: what the contracts ask. No condition. -/
namespace Go.VC
set_option linter.unusedVariables false
open Go.ChangeShapes Go.WideShapes Go.ChangeAt Go.RowKit
section
variable {H : Type} {enc : TypeId × Value → H} {P : Program} {W : World} {r : Reach} {b0 : Nat} {t e : TypeId} {v : Value} {d : DataW H} {p : List MemPlace} {n : Nat}
theorem ints_in (ht : P.underlying t = some (.slice e)) (he : P.underlying e = some (.int .i64)) (hc : P.cellsOf e = 1) (hv : Value.okWide P W r b0 t v) (h : DataW.Trod enc P W 0 (fun _ => true) true t v d p) :
    ∃ s xs, v = .slice s.a s.len s.cap ∧ RoI (Cx.of W) s xs ∧ ∀ z ∈ xs, -9223372036854775808 ≤ z ∧ z < 9223372036854775808 := by
  obtain ⟨a, l, c, rfl⟩ := okWide_slice ht hv
  obtain ⟨fuel, hf⟩ := h
  obtain ⟨xs, hx, hb⟩ := roI_of_trod ht he hc (by simpa [Value.cells] using hf)
  exact ⟨⟨a, l, c⟩, xs, rfl, hx, hb⟩
end
end Go.VC
/- ROW, part 3: arguments of any plain type (integers, bools, floats, strings, slices, structs, arrays of such), read as trees. No condition. -/
namespace Go.VC
set_option linter.unusedVariables false
open Go.ChangeShapes Go.WideShapes Go.ChangeAt Go.RowKit
inductive Tr where
  | int (k : IntKind) (n : Int) | bool (b : Bool) | flt (n : Nat) | str (s : ByteArray) | sl (s : Sl) (xs : List Tr) | st (xs : List Tr)
mutual
def Tr.cells : Tr → List Value
  | .int k n => [.int k n]
  | .bool b => [.bool b]
  | .flt n => [.float .f64 n]
  | .str s => [.string s]
  | .sl s _ => [.slice s.a s.len s.cap]
  | .st xs => Tr.cellsL xs
def Tr.cellsL : List Tr → List Value
  | [] => []
  | x :: xs => x.cells ++ Tr.cellsL xs
end
inductive U where
  | int (k : IntKind) | bool | flt | str | sl (u : U) | st (us : List U)
mutual
def U.size : U → Nat
  | .st us => U.sizeL us
  | _ => 1
def U.sizeL : List U → Nat
  | [] => 0
  | u :: us => u.size + U.sizeL us
end
mutual
def Tr.Ok (R : Cx) : U → Tr → Prop
  | .int k, .int k' n => k' = k ∧ (Lit.int k n).wf = true
  | .bool, .bool _ => True
  | .flt, .flt n => (Lit.float .f64 n).wf = true
  | .str, .str s => s.size ≤ maxLen
  | .sl u, .sl s xs => (RoN u.size R s (xs.map Tr.cells) ∧ s.len ≤ s.cap) ∧ xs.length ≤ maxLen ∧ Tr.OkA R u xs
  | .st us, .st xs => Tr.OkL R us xs
  | _, _ => False
def Tr.OkA (R : Cx) (u : U) : List Tr → Prop
  | [] => True
  | x :: xs => Tr.Ok R u x ∧ Tr.OkA R u xs
def Tr.OkL (R : Cx) : List U → List Tr → Prop
  | [], [] => True
  | u :: us, x :: xs => Tr.Ok R u x ∧ Tr.OkL R us xs
  | _, _ => False
end
theorem Tr.okA {R : Cx} {u : U} : ∀ {xs : List Tr}, Tr.OkA R u xs → ∀ x ∈ xs, Tr.Ok R u x
  | [], _, x, hx => by cases hx
  | y :: ys, h, x, hx => by
    unfold Tr.OkA at h
    rcases List.mem_cons.1 hx with rfl | hx
    · exact h.1
    · exact Tr.okA h.2 x hx
theorem Tr.okA_mk {R : Cx} {u : U} : ∀ {xs : List Tr}, (∀ x ∈ xs, Tr.Ok R u x) → Tr.OkA R u xs
  | [], _ => by unfold Tr.OkA; trivial
  | y :: ys, h => by
    unfold Tr.OkA
    exact ⟨h y List.mem_cons_self, Tr.okA_mk fun x hx => h x (List.mem_cons_of_mem _ hx)⟩
def fieldsU (P : Program) (f : TypeId → Option U) : Nat → List Field → Option (List U)
  | _, [] => some []
  | off, x :: xs => match Nat.beq x.offset off with
    | false => none
    | true => match f x.type with
      | none => none
      | some u => match Nat.beq (P.cellsOf x.type) u.size with
        | false => none
        | true => match fieldsU P f (off + u.size) xs with
          | none => none
          | some us => some (u :: us)
def uOf (P : Program) : Nat → TypeId → Option U
  | 0, _ => none
  | d + 1, t => match P.underlying t with
    | some (.int k) => some (.int k)
    | some .bool => some .bool
    | some (.float .f64) => some .flt
    | some .string => some .str
    | some (.slice e) => match uOf P d e with
      | some u => (match Nat.beq (P.cellsOf e) u.size && Nat.blt 0 u.size with | true => some (.sl u) | false => none)
      | none => none
    | some (.struct fs) => match fieldsU P (uOf P d) 0 fs.toList with
      | some us => (match Nat.beq (P.cellsOf t) (U.sizeL us) with | true => some (.st us) | false => none)
      | none => none
    | some (.array n e) => match uOf P d e with
      | some u => (match Nat.beq (P.cellsOf e) u.size && Nat.beq (P.cellsOf t) (n * u.size) with | true => some (.st (List.replicate n u)) | false => none)
      | none => none
    | _ => none
section
variable {H : Type} {enc : TypeId × Value → H} {P : Program} {W : World} {base : Nat} {spare : Nat → Bool} {held : Bool}
def IsTr (R : Cx) (u : U) (cs : List Value) : Prop := ∃ x : Tr, x.cells = cs ∧ x.Ok R u
theorem cells?_cell {w : World} {base : Nat} {a : Addr} {n : Nat} {cs : List Value} (h : w.cells? base a n = some cs) : cs.length = n ∧ ∀ i, i < n → w.cell? (a.add i) = cs[i]? := by
  unfold World.cells? at h
  split at h
  · refine ⟨by have := mapM_some_length h; simpa using this, fun i hi => mapM_some_get h i i (by simp [hi])⟩
  · cases h
theorem add_add (a : Addr) (i j : Nat) (hs : a.spot = none) : (a.add i).add j = ⟨a.block, a.off + (i + j), none⟩ := by
  obtain ⟨b, o, s⟩ := a
  simp only at hs
  subst hs
  rw [add_off, add_off, Nat.add_assoc]
theorem fields_read {d : Nat} (ih : ∀ {fuel : Nat} {t : TypeId} {cs : List Value} {y : DataW H × List MemPlace} {u : U}, uOf P d t = some u → DataW.trod enc P W base spare held fuel t cs = some y → IsTr (Cx.of W) u cs) {n : Nat} {cs : List Value} {xs : List (DataW H × List MemPlace)} :
    ∀ (fs : List Field) (off : Nat) (us : List U), fieldsU P (uOf P d) off fs = some us → (∀ (i : Nat) (f : Field), fs[i]? = some f → ∃ y, DataW.trod enc P W base spare held n f.type ((cs.drop f.offset).take (P.cellsOf f.type)) = some y) →
      off + U.sizeL us ≤ cs.length → ∃ ts : List Tr, Tr.cellsL ts = (cs.drop off).take (U.sizeL us) ∧ Tr.OkL (Cx.of W) us ts
  | [], off, us, h, _, _ => by
    simp only [fieldsU, Option.some.injEq] at h
    subst h
    exact ⟨[], by simp [Tr.cellsL, U.sizeL], by unfold Tr.OkL; trivial⟩
  | f :: fs, off, us, h, hf, hl => by
    unfold fieldsU at h
    split at h
    · cases h
    rename_i hoff
    have hoff := Nat.eq_of_beq_eq_true hoff
    split at h
    · cases h
    rename_i u hu
    split at h
    · cases h
    rename_i hc
    have hc := Nat.eq_of_beq_eq_true hc
    split at h
    · cases h
    rename_i us' hus
    cases h
    simp only [U.sizeL] at hl ⊢
    obtain ⟨y, hy⟩ := hf 0 f rfl
    obtain ⟨x, hx, hxo⟩ := ih hu hy
    obtain ⟨ts, hts, htso⟩ := fields_read ih (n := n) (xs := xs) fs (off + u.size) us' hus (fun i g hg => hf (i + 1) g (by simpa using hg)) (by omega)
    refine ⟨x :: ts, ?_, by unfold Tr.OkL; exact ⟨hxo, htso⟩⟩
    simp only [Tr.cellsL]
    rw [hx, hts, hoff, hc, List.take_add, List.drop_drop]
theorem reps_read {u : U} {n s : Nat} : ∀ {m : Nat} {cs : List Value}, cs.length = m * s → u.size = s → (∀ i, i < m → IsTr (Cx.of W) u ((cs.drop (i * s)).take s)) → ∃ ts : List Tr, Tr.cellsL ts = cs ∧ Tr.OkL (Cx.of W) (List.replicate m u) ts
  | 0, cs, hl, _, _ => by
    have : cs = [] := List.length_eq_zero_iff.1 (by simpa using hl)
    subst this
    exact ⟨[], rfl, by unfold Tr.OkL; trivial⟩
  | m + 1, cs, hl, hs, h => by
    obtain ⟨x, hx, hxo⟩ := h 0 (by omega)
    obtain ⟨ts, hts, htso⟩ := reps_read (n := n) (m := m) (cs := cs.drop s) (by rw [List.length_drop, hl, Nat.add_mul]; omega) hs (fun i hi => by
      have := h (i + 1) (by omega)
      rw [Nat.add_mul, Nat.one_mul, Nat.add_comm, ← List.drop_drop] at this
      exact this)
    refine ⟨x :: ts, ?_, by rw [List.replicate_succ]; unfold Tr.OkL; exact ⟨hxo, htso⟩⟩
    simp only [Tr.cellsL]
    rw [hx, hts]
    simp
theorem choose_list {α β : Type} {p : Nat → α → Prop} : ∀ {n : Nat}, (∀ i, i < n → ∃ x : α, p i x) → ∃ xs : List α, xs.length = n ∧ ∀ i (hi : i < xs.length), p i xs[i]
  | 0, _ => ⟨[], rfl, fun i hi => by simp at hi⟩
  | n + 1, h => by
    obtain ⟨xs, hl, hp⟩ := choose_list (β := β) (n := n) fun i hi => h i (by omega)
    obtain ⟨x, hx⟩ := h n (by omega)
    refine ⟨xs ++ [x], by simp [hl], fun i hi => ?_⟩
    by_cases h2 : i < xs.length
    · rw [List.getElem_append_left h2]; exact hp i h2
    · have : i = n := by simp at hi; omega
      subst this
      rw [List.getElem_append_right (by omega)]
      simpa using hx
theorem trod_f64 {fuel : Nat} {t : TypeId} {cs : List Value} {x : DataW H × List MemPlace} (ht : P.underlying t = some (.float .f64)) (h : DataW.trod enc P W base spare held fuel t cs = some x) : ∃ n, cs = [.float .f64 n] ∧ (Lit.float .f64 n).wf = true := by
  cases fuel with
  | zero => simp [DataW.trod] at h
  | succ n =>
    unfold DataW.trod at h
    rw [ht] at h
    split at h <;> simp_all
theorem tr_read : ∀ {d fuel : Nat} {t : TypeId} {cs : List Value} {y : DataW H × List MemPlace} {u : U}, uOf P d t = some u → DataW.trod enc P W base spare held fuel t cs = some y → IsTr (Cx.of W) u cs
  | 0, _, _, _, _, _, h, _ => by cases h
  | d + 1, fuel, t, cs, y, u, h, hy => by
    unfold uOf at h
    split at h
    · rename_i k ht
      cases h
      obtain ⟨n, rfl, _, hw⟩ := DataW.trod_int ht hy
      exact ⟨.int k n, rfl, rfl, hw⟩
    · rename_i ht
      cases h
      obtain ⟨b, rfl, _⟩ := DataW.trod_bool ht hy
      exact ⟨.bool b, rfl, by unfold Tr.Ok; trivial⟩
    · rename_i ht
      cases h
      obtain ⟨n, rfl, hn⟩ := trod_f64 ht hy
      exact ⟨.flt n, rfl, by unfold Tr.Ok; exact hn⟩
    · rename_i ht
      cases h
      obtain ⟨s, rfl, _, hs⟩ := DataW.trod_string ht hy
      exact ⟨.str s, rfl, hs⟩
    · rename_i e ht
      split at h
      case h_2 => cases h
      rename_i ue hue
      split at h
      case h_2 => cases h
      rename_i hc
      simp only [Bool.and_eq_true] at hc
      have hpos : 0 < ue.size := Nat.blt_eq.mp hc.2
      have hc := Nat.eq_of_beq_eq_true hc.1
      cases h
      rcases DataW.trod_slice ht hy with ⟨rfl, _⟩ | ⟨a, len, cap, elems, rest, n, _, rfl, _, _, hlc, hcm, hel, helem, _, _⟩
      · refine ⟨.sl ⟨none, 0, 0⟩ [], rfl, ?_⟩
        unfold Tr.Ok
        exact ⟨⟨⟨Wid.nil, rfl, fun h => absurd rfl h⟩, Nat.le_refl _⟩, Nat.zero_le _, by unfold Tr.OkA; trivial⟩
      · obtain ⟨xs, hxl, hxs⟩ := choose_list (β := Unit) (p := fun i (x : Tr) => W.cells? base (a.add (i * P.cellsOf e)) (P.cellsOf e) = some x.cells ∧ x.Ok (Cx.of W) ue) (n := len) fun i hi => by
          have h1 := helem i hi
          rw [List.getElem?_eq_getElem (by omega)] at h1
          obtain ⟨ce, hce, hte⟩ := Option.bind_eq_some_iff.1 h1
          obtain ⟨x, rfl, hx⟩ := tr_read hue hte
          exact ⟨x, hce, hx⟩
        refine ⟨.sl ⟨some a, len, cap⟩ xs, rfl, ?_⟩
        unfold Tr.Ok
        have hwid : Wid ue.size (xs.map Tr.cells) := fun r hr => by
          obtain ⟨x, hx, rfl⟩ := List.mem_map.1 hr
          obtain ⟨i, hi, rfl⟩ := List.getElem_of_mem hx
          have := (cells?_cell (hxs i hi).1).1
          rw [this, hc]
        refine ⟨⟨⟨hwid, by simp [hxl], fun hne => ?_⟩, hlc⟩, by omega, Tr.okA_mk fun x hx => by obtain ⟨i, hi, rfl⟩ := List.getElem_of_mem hx; exact (hxs i hi).2⟩
        -- the block
        have h0 : 0 < xs.length := by
          have : 0 < (xs.map Tr.cells).length := List.length_pos_iff.2 hne
          simpa using this
        have hcell : ∀ i (hi : i < xs.length) j, j < ue.size → W.cell? ((a.add (i * ue.size)).add j) = (xs[i].cells)[j]? := fun i hi j hj => by
          have := (cells?_cell (hxs i hi).1).2 j (by rw [hc]; exact hj)
          rw [hc] at this; exact this
        have hxl0 : ∀ i (hi : i < xs.length), (xs[i].cells).length = ue.size := fun i hi => by rw [(cells?_cell (hxs i hi).1).1, hc]
        have hc0 := hcell 0 h0 0 (by omega)
        rw [List.getElem?_eq_getElem (by rw [hxl0 0 h0]; omega)] at hc0
        have hz0 : (a.add (0 * ue.size)).add 0 = a := by rw [Nat.zero_mul]; simp [Addr.add]
        rw [hz0] at hc0
        obtain ⟨hs, l, T, fr, hl, _⟩ := block_of_cell hc0
        refine ⟨a.block, a.off, l, T, fr, by cases a; simp_all, hl, fun i v hv => ?_⟩
        -- which row, which place
        have hlen := hwid.len
        rw [List.length_map] at hlen
        have hi : i < (xs.map Tr.cells).flatten.length := (List.getElem?_eq_some_iff.1 hv).1
        have hq : i / ue.size < xs.length := by
          rw [hlen] at hi; exact Nat.div_lt_of_lt_mul (by rwa [Nat.mul_comm])
        have hm : i % ue.size < ue.size := Nat.mod_lt _ (by omega)
        have hcc := hcell (i / ue.size) hq (i % ue.size) hm
        rw [add_add a _ _ hs, show i / ue.size * ue.size + i % ue.size = i by rw [Nat.mul_comm]; exact Nat.div_add_mod _ _] at hcc
        have e1 : (xs.map Tr.cells).flatten[i]? = (xs[i / ue.size].cells)[i % ue.size]? := by
          have h1 : i = i / ue.size * ue.size + i % ue.size := by rw [Nat.mul_comm]; exact (Nat.div_add_mod _ _).symm
          conv => lhs; rw [h1]
          rw [← List.getElem?_drop, hwid.drop_flat, List.drop_eq_getElem_cons (by simpa using hq), List.flatten_cons, List.getElem?_append_left (by rw [List.getElem_map, hxl0 _ hq]; exact hm), List.getElem_map]
        rw [← e1, hv] at hcc
        simp only [World.cell?, hl, Option.isSome_none, Bool.false_eq_true, if_false] at hcc
        exact hcc
    · rename_i fs ht
      split at h
      case h_2 => cases h
      rename_i us hus
      split at h
      case h_2 => cases h
      rename_i hc
      have hc := Nat.eq_of_beq_eq_true hc
      cases h
      obtain ⟨xs, n, _, _, hl, hxl, hf⟩ := DataW.trod_struct ht hy
      obtain ⟨ts, hts, hto⟩ := fields_read (d := d) (fun h h2 => tr_read h h2) (n := n) (cs := cs) (xs := xs) fs.toList 0 us hus (fun i f hfi => by
        have hfi2 : fs[i]? = some f := by simpa using hfi
        have hlt : i < xs.length := by rw [hxl]; exact (Array.getElem?_eq_some_iff.1 hfi2).1
        exact ⟨xs[i], by rw [hf i f hfi2]; exact List.getElem?_eq_getElem hlt⟩) (by omega)
      refine ⟨.st ts, ?_, by unfold Tr.Ok; exact hto⟩
      unfold Tr.cells
      rw [hts, List.drop_zero, List.take_of_length_le (by omega)]
    · rename_i m e ht
      split at h
      case h_2 => cases h
      rename_i ue hue
      split at h
      case h_2 => cases h
      rename_i hc
      simp only [Bool.and_eq_true] at hc
      have hc1 := Nat.eq_of_beq_eq_true hc.1
      have hc2 := Nat.eq_of_beq_eq_true hc.2
      cases h
      obtain ⟨xs, n, _, _, hl, hxl, hf⟩ := DataW.trod_array ht hy
      obtain ⟨ts, hts, hto⟩ := reps_read (n := n) (u := ue) (s := ue.size) (m := m) (cs := cs) (by rw [hl, hc2]) rfl (fun i hi => by
        have := hf i hi
        rw [hc1, List.getElem?_eq_getElem (by omega)] at this
        exact tr_read hue this)
      exact ⟨.st ts, by unfold Tr.cells; exact hts, by unfold Tr.Ok; exact hto⟩
    · cases h
theorem tr_arg {d : Nat} {t : TypeId} {v : Value} {dt : DataW H} {p : List MemPlace} {u : U} (hu : uOf P d t = some u) (h : DataW.Trod enc P W base spare held t v dt p) : IsTr (Cx.of W) u v.cells.toList := by
  obtain ⟨fuel, hf⟩ := h
  exact tr_read hu hf
theorem sl_form {α : Type} {R : Cx} {u : U} {s : Sl} {xs : List Tr} (g : α → List Value) (Q : α → Prop) (ho : Tr.Ok R (.sl u) (.sl s xs)) (h : ∀ x : Tr, x.Ok R u → ∃ e : α, x.cells = g e ∧ Q e) :
    ∃ es : List α, RoN u.size R s (es.map g) ∧ es.length ≤ maxLen ∧ ∀ e ∈ es, Q e := by
  unfold Tr.Ok at ho
  obtain ⟨⟨h1, _⟩, h2, h3⟩ := ho
  have key : ∀ l : List Tr, (∀ x ∈ l, x.Ok R u) → ∃ es : List α, l.map Tr.cells = es.map g ∧ es.length = l.length ∧ ∀ e ∈ es, Q e := fun l => by
    induction l with
    | nil => exact fun _ => ⟨[], rfl, rfl, fun _ h => by cases h⟩
    | cons x l ih =>
      intro hl
      obtain ⟨es, h1, h2, h3⟩ := ih fun y hy => hl y (List.mem_cons_of_mem _ hy)
      obtain ⟨e, he, hq⟩ := h x (hl x List.mem_cons_self)
      exact ⟨e :: es, by rw [List.map_cons, List.map_cons, he, h1], by simp [h2], fun y hy => by
        rcases List.mem_cons.1 hy with rfl | hy
        · exact hq
        · exact h3 y hy⟩
  obtain ⟨es, e1, e2, e3⟩ := key xs (Tr.okA h3)
  rw [e1] at h1
  exact ⟨es, h1, by omega, e3⟩
theorem RoN.one {R : Cx} {s : Sl} {vs : List Value} (h : RoN 1 R s (vs.map fun v => [v])) (hb : vs.length ≤ maxLen) : Ro R s vs := by
  refine ⟨by have := h.len; simpa using this, by unfold maxLen at hb; omega, fun hne => ?_⟩
  obtain ⟨b, off, l, T, fr, h1, h2, h3⟩ := h.mem (by simpa using hne)
  refine ⟨b, off, l, T, fr, h1, h2, fun i v hv => h3 i v ?_⟩
  have : (vs.map fun v => [v]).flatten = vs := by
    clear h3 h hb hne hv
    induction vs with
    | nil => rfl
    | cons v vs ih => simp [ih]
  rw [this]; exact hv
end
end Go.VC

/- Chapter 19: SessionNumbers. Condition: none. -/
namespace Go.Proofs.YtadnmnkbgjippaaGreatDoor
set_option linter.unusedVariables false
open Go Go.VC
open Classical
variable {R : Cx} {Hs Rest : List HP} {w : World}
theorem clV_none {A : List CE} {id : Int} (h : ∀ x ∈ A, x.2.1 ≠ id) : getM id (A.map clV) = none := getM_ne.2 fun y hy => by
  obtain ⟨x, hx, rfl⟩ := List.mem_map.1 hy
  exact h x hx
theorem ids_mid {A C : List CE} {e : CE} (h : ((A ++ e :: C).map fun e => e.2.1).Nodup) : ∀ x ∈ A, x.2.1 ≠ e.2.1 := fun x hx he => by
  rw [List.map_append, List.map_cons, List.nodup_append] at h
  exact h.2.2 _ (List.mem_map.2 ⟨x, hx, rfl⟩) _ (List.mem_cons_self ..) he
set_option maxHeartbeats 1000000 in
theorem sapplyE_spec {p : Nat} {next : Int} {A C : List CE} {e : CE} {s : Sl} (ok : TblOk next (A ++ e :: C)) (hs : Ro R s (b8 (rqB (endQ e.2.1)))) (hw : Sat R (TblAt p next (A ++ e :: C) :: Hs) w) :
    Gets Tryz.prog 13 #[.pointer (some ⟨p, 0, none⟩), .slice s.a s.len s.cap] w fun v w' => v = .agg (tdV ⟨0, e.2.1, 0, []⟩ nilS).toArray ∧ Sat R (TblAt p next (A ++ C) :: Hs) w' := by
  have hlt := ok.lt e (by simp)
  have hnx := ok.nx
  have hr : RightQ (endQ e.2.1) := endQ_right ⟨by omega, by omega⟩
  have hlen := rqB_len hr
  have hA := clV_none (ids_mid ok.ids)
  have hg : getM e.2.1 ((A ++ e :: C).map clV) = some (.pointer (some ⟨e.1, 0, none⟩)) := by
    rw [List.map_append, List.map_cons]
    exact getM_app hA (by simp)
  obtain ⟨m, bk, hw⟩ := Sat.tbl.1 hw
  apply call13
  refine new_rule hw fun b4 w hw => ?_
  have hw : Sat R (tdNew b4 :: pts p (tblC bk next m) :: MapAt m ((A ++ e :: C).map clV) :: Star ((A ++ e :: C).map cliAt) :: Hs) w := hw
  refine (sdec_spec (rqB_bytes hr (fun _ h => by cases h)) (by omega) hs hw).use ?_
  clear hw
  rintro _ w ⟨t, rfl, hw⟩
  rw [rqDec_back hr] at hw ⊢
  have hw := hw.drop
  refine ⟨3, e.2.1, 0, 0, t, 0, rfl, ?_⟩
  refine new_rule hw fun b5 w hw => ?_
  refine store_rule hw (by kernel_rfl) rfl (by simp [Value.cells]) fun w hw => ?_
  have hw := hw.re (rqC b5 (endQ e.2.1) t)
  refine Br.ne (fun h => absurd rfl h) (fun _ => ?_)
  refine ⟨3, At.own (eqS hw) (by exact ⟨rfl, trivial⟩), Br.e (fun h => by cases h) (fun _ => ?_)⟩
  refine ⟨3, At.own (eqS hw) (by exact ⟨rfl, trivial⟩), Br.e (fun h => by cases h) (fun _ => ?_)⟩
  have hw : Sat R (MapAt m ((A ++ e :: C).map clV) :: pts p (tblC bk next m) :: rqC b5 (endQ e.2.1) t :: tdNew b4 :: Star ((A ++ e :: C).map cliAt) :: Hs) w := hw.arr
  refine drw_rule hw fun w hw => ?_
  refine NilP.mk rfl ⟨some m, At.own selfS (by exact ⟨rfl, trivial⟩), e.2.1, At.own selfS (by exact ⟨rfl, trivial⟩), some ⟨e.1, 0, none⟩, true, fun w' h => ?_, ?_⟩
  · have := MapAt.look cMap h e.2.1 true
    rw [hg] at this
    exact this
  refine ⟨fun tt w => tt = false ∧ Sat R (MapAt m ((A ++ e :: C).map clV) :: pts p (tblC bk next m) :: rqC b5 (endQ e.2.1) t :: tdNew b4 :: Star ((A ++ e :: C).map cliAt) :: Hs) w, ?_, ?_⟩
  · refine drw_rule hw fun w hw => Br.f rfl ⟨rfl, hw⟩
  clear hw
  rintro _ _ w ⟨rfl, hw⟩
  refine Br.f rfl (Br.f rfl ⟨3, At.own (eqS hw) (by exact ⟨rfl, trivial⟩), Br.e (fun _ => ?_) (fun h => absurd rfl h)⟩)
  refine drw_rule hw fun w hw => ?_
  refine NilP.mk rfl ⟨some m, At.own selfS (by exact ⟨rfl, trivial⟩), e.2.1, At.own selfS (by exact ⟨rfl, trivial⟩), ?_⟩
  refine MapAt.del cMap hw e.2.1 fun w hw => ?_
  have hdel : delM e.2.1 ((A ++ e :: C).map clV) = (A ++ C).map clV := by
    rw [List.map_append, List.map_cons, List.map_append]
    exact delM_app hA (by simp)
  rw [hdel] at hw
  refine ⟨e.2.1, At.own (eqS hw) (by exact ⟨rfl, trivial⟩), ?_⟩
  refine store_rule hw (by kernel_rfl) rfl (by simp [Value.cells]) fun w hw => ?_
  have hw := hw.re (tdC b4 ⟨0, e.2.1, 0, []⟩ nilS)
  refine ⟨0, e.2.1, 0, nilS, At.own (eqS hw) (by exact ⟨rfl, rfl, rfl, rfl, trivial⟩), rfl, Sat.tbl.2 ⟨m, bk, ?_⟩⟩
  have hw : Sat R (Star ((A ++ e :: C).map cliAt) :: pts p (tblC bk next m) :: MapAt m ((A ++ C).map clV) :: rqC b5 (endQ e.2.1) t :: tdC b4 ⟨0, e.2.1, 0, []⟩ nilS :: Hs) w := hw.arr
  have e5 : (A ++ e :: C).map cliAt = A.map cliAt ++ cliAt e :: C.map cliAt := by simp
  rw [e5] at hw
  have hw := (star_mid.1 hw).drop
  rw [← List.map_append] at hw
  have hw : Sat R (pts p (tblC bk next m) :: MapAt m ((A ++ C).map clV) :: Star ((A ++ C).map cliAt) :: rqC b5 (endQ e.2.1) t :: tdC b4 ⟨0, e.2.1, 0, []⟩ nilS :: Hs) w := hw.arr
  exact hw.cons fun _ h => h.cons fun _ h => h.cons fun _ h => h.drop.drop
def oV (e : CE) : Int × Value := (e.2.2, .int .i64 e.2.1)
abbrev oMap : MapT Tryz.prog 37 Int 3 3 (.int .i64 0) := ⟨Tryz.underlying37, Tryz.underlying3, Tryz.zeroValue3⟩
structure NumOk (next last : Int) (E : List CE) (i : Nat) : Prop where
  ok : TblOk next E
  len : E.length ≤ i
  nx : next ≤ (i : Int) + 1
  tok : (E.map fun e => e.2.2).Nodup
  last : 0 ≤ last ∧ last < next
theorem oV_none {A : List CE} {t : Int} (h : ∀ x ∈ A, x.2.2 ≠ t) : getM t (A.map oV) = none := getM_ne.2 fun y hy => by
  obtain ⟨x, hx, rfl⟩ := List.mem_map.1 hy
  exact h x hx
theorem tok_mid {A C : List CE} {e : CE} (h : ((A ++ e :: C).map fun e => e.2.2).Nodup) : ∀ x ∈ A, x.2.2 ≠ e.2.2 := fun x hx he => by
  rw [List.map_append, List.map_cons, List.nodup_append] at h
  exact h.2.2 _ (List.mem_map.2 ⟨x, hx, rfl⟩) _ (List.mem_cons_self ..) he
structure Begun (next last tok : Int) (E : List CE) (i : Nat) (next' : Int) (E' : List CE) (e : CE) (has : Bool) : Prop where
  num : NumOk next' last E' (i + 1)
  mem : e ∈ E'
  tk : e.2.2 = tok
  look : getM tok (E.map oV) = if has then some (.int .i64 e.2.1) else none
  put : putM tok (.int .i64 e.2.1) (E.map oV) = E'.map oV
  new : has = false → last < e.2.1
theorem begun_old {next last tok : Int} {E : List CE} {i : Nat} {e : CE} (h : NumOk next last E i) (he : e ∈ E) (ht : e.2.2 = tok) : Begun next last tok E i next E e true := by
  obtain ⟨A, C, hAC⟩ := List.append_of_mem he
  have hA : getM tok (A.map oV) = none := oV_none (by rw [← ht]; exact tok_mid (by rw [← hAC]; exact h.tok))
  have e1 : E.map oV = A.map oV ++ (tok, .int .i64 e.2.1) :: C.map oV := by rw [hAC, List.map_append, List.map_cons]; simp only [oV, ht]
  have hl := h.len
  have hn := h.nx
  have hg : getM tok (E.map oV) = some (.int .i64 e.2.1) := by rw [e1]; exact getM_app hA (by simp)
  refine ⟨⟨h.ok, by omega, by omega, h.tok, h.last⟩, he, ht, hg, ?_, fun h => by cases h⟩
  unfold putM
  rw [hg]
  show (if true = true then _ else _) = _
  rw [if_pos rfl, e1, setM_app hA (by simp)]
theorem begun_new {next last tok : Int} {E : List CE} {i c : Nat} (h : NumOk next last E i) (hi : i ≤ 100) (hno : ∀ e ∈ E, e.2.2 ≠ tok) : Begun next last tok E i (next + 1) (E ++ [(c, next, tok)]) (c, next, tok) false := by
  have hl := h.len
  have hn := h.nx
  have hk := h.ok.nx
  have hg : getM tok (E.map oV) = none := oV_none hno
  refine ⟨⟨⟨⟨by omega, by omega⟩, fun x hx => ?_, ?_⟩, by rw [List.length_append]; simp; omega, by omega, ?_, ⟨h.last.1, by have := h.last.2; omega⟩⟩, by simp, rfl, hg, ?_, fun _ => h.last.2⟩
  · rcases List.mem_append.1 hx with hx | hx
    · have := h.ok.lt x hx; omega
    · simp only [List.mem_singleton] at hx
      rw [hx]
      exact ⟨hk.1, by show next < next + 1; omega⟩
  · rw [List.map_append, List.nodup_append]
    refine ⟨h.ok.ids, by simp, fun a ha b hb => ?_⟩
    obtain ⟨x, hx, rfl⟩ := List.mem_map.1 ha
    simp only [List.map_cons, List.map_nil, List.mem_singleton] at hb
    have := h.ok.lt x hx
    omega
  · rw [List.map_append, List.nodup_append]
    refine ⟨h.tok, by simp, fun a ha b hb => ?_⟩
    obtain ⟨x, hx, rfl⟩ := List.mem_map.1 ha
    simp only [List.map_cons, List.map_nil, List.mem_singleton] at hb
    rw [hb]
    exact hno x hx
  · unfold putM
    rw [hg]
    simp [oV]
theorem ended {next last : Int} {A C : List CE} {e : CE} {i : Nat} (h : NumOk next last (A ++ e :: C) i) : NumOk next last (A ++ C) i ∧ delM e.2.2 ((A ++ e :: C).map oV) = (A ++ C).map oV := by
  have hsub : (A ++ C).Sublist (A ++ e :: C) := List.Sublist.append_left (List.sublist_cons_self ..) A
  refine ⟨⟨⟨h.ok.nx, fun x hx => h.ok.lt x (hsub.subset hx), (hsub.map _).nodup h.ok.ids⟩, Nat.le_trans hsub.length_le h.len, h.nx, (hsub.map _).nodup h.tok, h.last⟩, ?_⟩
  rw [List.map_append, List.map_cons, List.map_append]
  exact delM_app (oV_none (tok_mid h.tok)) (by simp [oV])
end Go.Proofs.YtadnmnkbgjippaaGreatDoor
/- Chapter 19: SessionNumbers, the law. Condition: none. -/
namespace Go.Proofs.YtadnmnkbgjippaaGreatDoor
set_option linter.unusedVariables false
open Go Go.VC
open Classical
variable {R : Cx} {Hs Rest : List HP} {w : World}
theorem _root_.Go.VC.Ro.ixBool {xs : List Bool} {s : Sl} {S : World → Prop} {i : Int} (hr : Ro R s (xs.map Value.bool)) (hS : ∀ w, S w → Sat R Hs w) (j : Nat) (hi : i = j) (hj : j < xs.length) {F : Bool → Prop} (h : F xs[j]) :
    Rng i s.len (NilP s.a fun a => ∃ t : Bool, (At S (a.add i.toNat) [.bool t]) ∧ F t) := by
  subst hi
  obtain ⟨a, ha, hat⟩ := hr.addr (k := j) (by rw [List.length_map]; exact hj)
  have hl := hr.len
  rw [List.length_map] at hl
  exact Rng.mk (by omega) (by omega) (NilP.mk ha ⟨_, by have := hat hS; rw [List.getElem_map] at this; exact this, h⟩)
theorem ro_nil : Ro R nilS (b8 []) := ⟨rfl, by show 0 ≤ 9223372036854775807; omega, fun h => absurd rfl h⟩
set_option maxHeartbeats 2000000 in
theorem snumbers_lspec {sT sE : Sl} {toks : List Int} {ends : List Bool} (hT : RoI R sT toks) (hE : Ro R sE (ends.map Value.bool)) (hw : Sat R Hs w) :
    Gets Tryz.prog 4 #[.slice sT.a sT.len sT.cap, .slice sE.a sE.len sE.cap] w fun v w' => v = .bool true ∧ Sat R Hs w' := by
  have hTl := hT.len
  have hEl := hE.len
  rw [List.length_map] at hEl
  apply call4
  suffices H : ∀ K : Value → World → Prop, (∀ w', Sat R Hs w' → K (.bool true) w') → B4 sT sE K w from H _ fun w' h => ⟨rfl, h⟩
  intro K hK
  refine (aw19_spec hw).use ?_
  clear hw
  rintro _ w ⟨rfl, hw⟩
  refine ⟨_, rfl, ?_⟩
  refine (snew_spec hw).use ?_
  clear hw
  rintro _ w ⟨p, rfl, hw⟩
  refine ⟨_, rfl, fun w => Sat R (TblAt p 1 [] :: Hs) w, Br.f rfl (Br.f rfl hw), ?_⟩
  clear hw
  rintro _ w hw
  refine new_rule hw fun om w hw => ?_
  have hw := MapAt.new (α := Int) rfl hw
  refine ⟨fun last i w => ∃ (k : Nat) (next : Int) (E : List CE), i = k ∧ k ≤ 60 ∧ NumOk next last E k ∧ Sat R (TblAt p next E :: MapAt om (E.map oV) :: Hs) w, fun _ i _ => 60 - i.toNat,
    ⟨0, 1, [], rfl, by omega, ⟨ok_new, Nat.le_refl _, by omega, List.nodup_nil, by omega, by omega⟩, hw.swap⟩, ?_⟩
  clear hw
  rintro _ last _ w ⟨k, next, E, rfl, hk, num, hw⟩
  have fin : ∀ {w}, Sat R (TblAt p next E :: MapAt om (E.map oV) :: Hs) w → K (.bool true) w := fun hw => hK _ hw.drop.drop
  refine ⟨fun w => (k < 60 ∧ k < toks.length) ∧ Sat R (TblAt p next E :: MapAt om (E.map oV) :: Hs) w, ?_, ?_⟩
  · exact Br.d (fun h => Br.d (fun h2 => ⟨⟨by omega, by omega⟩, hw⟩) (fun _ => fin hw)) (fun _ => fin hw)
  clear hw
  rintro _ w ⟨⟨hk2, hkx⟩, hw⟩
  have w1 : IntKind.i64.wrap ((k : Int) + 1) = (k : Int) + 1 := wrap64 (by omega) (by omega)
  rw [w1]
  have num1 : NumOk next last E (k + 1) := ⟨num.ok, by have := num.len; omega, by have := num.nx; omega, num.tok, num.last⟩
  obtain ⟨tok, htk⟩ : ∃ tok, tok = toks[k] := ⟨_, rfl⟩
  refine ⟨fun w => inI tok ∧ Sat R (TblAt p next E :: MapAt om (E.map oV) :: Hs) w, ?_, ?_⟩
  · refine Ro.ix hT (eqS hw) k rfl hkx ?_
    rw [← htk]
    refine Br.d (fun _ => ⟨⟨k + 1, next, E, by omega, by omega, num1, hw⟩, by dsimp only; omega⟩) (fun h1 => ?_)
    refine Ro.ix hT (eqS hw) k rfl hkx ?_
    rw [← htk]
    exact Br.d (fun _ => ⟨⟨k + 1, next, E, by omega, by omega, num1, hw⟩, by dsimp only; omega⟩) (fun h2 => ⟨⟨by omega, by omega⟩, hw⟩)
  clear hw fin
  rintro _ w ⟨hin, hw⟩
  refine Ro.ix hT (eqS hw) k rfl hkx ?_
  rw [← htk]
  refine (encoded_spec (q := begQ tok) (s := nilS) ro_nil hw).use ?_
  clear hw
  rintro _ w ⟨t, rfl, hw⟩
  have hr := begQ_right hin
  have he : (encQ (begQ tok)).1 = rqB (begQ tok) := by unfold encQ; rw [if_pos hr]
  have hlen := rqB_len hr
  rw [he] at hw
  refine ⟨t, rfl, ?_⟩
  obtain ⟨R1, e1, g1, hw⟩ := Own.leak hw
  have hlE := num.len
  refine ((sapplyB_spec num.ok (by omega) hin (g1.ro (by rw [List.length_map]; omega)) hw).mono (Q' := fun v w' => ∃ (next' : Int) (E' : List CE) (e : CE) (has : Bool), Begun next last tok E k next' E' e has ∧ v = .agg (tdV ⟨0, e.2.1, 0, []⟩ nilS).toArray ∧ Sat R (TblAt p next' E' :: MapAt om (E.map oV) :: Hs) w') ?_).use ?_
  · rintro _ w (⟨e, he, ht, rfl, hw⟩ | ⟨hno, c, rfl, hw⟩)
    · exact ⟨_, _, _, _, begun_old num he ht, rfl, e1.back hw⟩
    · exact ⟨_, _, _, _, begun_new (c := c) num (by omega) hno, rfl, e1.back hw⟩
  clear hw e1 g1
  rintro _ w ⟨next', E', e, has, bg, rfl, hw⟩
  refine ⟨0, e.2.1, 0, nilS, rfl, ?_⟩
  refine new_rule hw fun b10 w hw => ?_
  refine store_rule hw (by kernel_rfl) rfl (by simp [Value.cells]) fun w hw => ?_
  have hw := hw.re (tdC b10 ⟨0, e.2.1, 0, []⟩ nilS)
  have hw : Sat R (MapAt om (E.map oV) :: tdC b10 ⟨0, e.2.1, 0, []⟩ nilS :: TblAt p next' E' :: Hs) w := hw.arr
  refine Ro.ix hT (eqS hw) k rfl hkx ?_
  rw [← htk]
  refine ⟨if has then e.2.1 else 0, has, fun w' h => ?_, ?_⟩
  · rw [show w' = w from h]
    have := MapAt.look oMap hw tok true
    rw [bg.look] at this
    cases has
    · exact this
    · exact this
  refine ⟨fun w => Sat R (MapAt om (E.map oV) :: tdC b10 ⟨0, e.2.1, 0, []⟩ nilS :: TblAt p next' E' :: Hs) w, ?_, ?_⟩
  · refine ⟨0, At.own (eqS hw) (by exact ⟨rfl, trivial⟩), Br.ne (fun h => absurd rfl h) (fun _ => ?_)⟩
    cases has with
    | true =>
      refine Br.t rfl ⟨e.2.1, At.own (eqS hw) (by exact ⟨rfl, trivial⟩), Br.ne (fun h => absurd rfl h) (fun _ => Br.f rfl hw)⟩
    | false =>
      have hnew := bg.new rfl
      exact Br.f rfl (Br.t rfl ⟨e.2.1, At.own (eqS hw) (by exact ⟨rfl, trivial⟩), Br.d (fun h => by omega) (fun _ => hw)⟩)
  clear hw
  rintro _ w hw
  refine ⟨e.2.1, At.own (eqS hw) (by exact ⟨rfl, trivial⟩), ?_⟩
  refine drw_rule hw fun w hw => ?_
  refine Ro.ix hT selfS k rfl hkx ?_
  rw [← htk]
  refine ⟨e.2.1, At.own selfS (by exact ⟨rfl, trivial⟩), ?_⟩
  refine MapAt.put oMap hw tok (.int .i64 e.2.1) fun w hw => ?_
  rw [bg.put] at hw
  have hen := bg.num.ok.lt e bg.mem
  obtain ⟨last', hl'⟩ : ∃ l, l = if e.2.1 > last then e.2.1 else last := ⟨_, rfl⟩
  rw [← hl']
  have hlast : 0 ≤ last' ∧ last' < next' := by
    have := bg.num.last
    rw [hl']
    split <;> omega
  have num2 : NumOk next' last' E' (k + 1) := ⟨bg.num.ok, bg.num.len, bg.num.nx, bg.num.tok, hlast⟩
  refine ⟨fun _ w => Sat R (MapAt om (E'.map oV) :: tdC b10 ⟨0, e.2.1, 0, []⟩ nilS :: TblAt p next' E' :: Hs) w, ?_, ?_⟩
  · refine Br.d (fun h => ?_) (fun _ => hw)
    exact Ro.ixBool hE (eqS hw) k rfl (by omega) hw
  clear hw
  rintro _ b w hw
  refine Br.mk (fun _ => ?_) (fun _ => ?_)
  rotate_left
  · have hw : Sat R (tdC b10 ⟨0, e.2.1, 0, []⟩ nilS :: TblAt p next' E' :: MapAt om (E'.map oV) :: Hs) w := hw.arr
    exact ⟨⟨k + 1, next', E', by omega, by omega, num2, hw.drop⟩, by dsimp only; omega⟩
  refine ⟨e.2.1, At.own (eqS hw) (by exact ⟨rfl, trivial⟩), ?_⟩
  refine (encoded_spec (q := endQ e.2.1) (s := nilS) ro_nil hw).use ?_
  clear hw
  rintro _ w ⟨t2, rfl, hw⟩
  have hnx := bg.num.ok.nx
  have hr2 : RightQ (endQ e.2.1) := endQ_right ⟨by omega, by omega⟩
  have he2 : (encQ (endQ e.2.1)).1 = rqB (endQ e.2.1) := by unfold encQ; rw [if_pos hr2]
  have hlen2 := rqB_len hr2
  rw [he2] at hw
  refine ⟨t2, rfl, ?_⟩
  obtain ⟨A, C, hAC⟩ := List.append_of_mem bg.mem
  have htok := bg.tk
  subst hAC
  obtain ⟨R2, e2, g2, hw⟩ := Own.leak hw
  have hw : Sat R2 (TblAt p next' (A ++ e :: C) :: MapAt om ((A ++ e :: C).map oV) :: tdC b10 ⟨0, e.2.1, 0, []⟩ nilS :: Hs) w := hw.arr
  refine (sapplyE_spec bg.num.ok (g2.ro (by rw [List.length_map]; omega)) hw).use ?_
  clear hw
  rintro _ w ⟨rfl, hw⟩
  have hw := e2.back hw
  refine ⟨0, e.2.1, 0, nilS, rfl, ?_⟩
  refine new_rule hw fun b13 w hw => ?_
  refine store_rule hw (by kernel_rfl) rfl (by simp [Value.cells]) fun w hw => ?_
  have hw := hw.re (tdC b13 ⟨0, e.2.1, 0, []⟩ nilS)
  refine ⟨0, At.own (eqS hw) (by exact ⟨rfl, trivial⟩), Br.ne (fun h => absurd rfl h) (fun _ => ?_)⟩
  refine Ro.ix hT (eqS hw) k rfl hkx ?_
  rw [← htk]
  have hw : Sat R (MapAt om ((A ++ e :: C).map oV) :: TblAt p next' (A ++ C) :: tdC b13 ⟨0, e.2.1, 0, []⟩ nilS :: tdC b10 ⟨0, e.2.1, 0, []⟩ nilS :: Hs) w := hw.arr
  refine MapAt.del oMap hw tok fun w hw => ?_
  obtain ⟨num3, hdel⟩ := ended num2
  rw [htok] at hdel
  rw [hdel] at hw
  have hw : Sat R (tdC b13 ⟨0, e.2.1, 0, []⟩ nilS :: tdC b10 ⟨0, e.2.1, 0, []⟩ nilS :: TblAt p next' (A ++ C) :: MapAt om ((A ++ C).map oV) :: Hs) w := hw.arr
  exact ⟨⟨k + 1, next', A ++ C, by omega, by omega, num3, hw.drop.drop⟩, by dsimp only; omega⟩
end Go.Proofs.YtadnmnkbgjippaaGreatDoor
/- Chapter 19: the arguments of SessionNumbers. Condition: none. -/
namespace Go.Proofs.YtadnmnkbgjippaaGreatDoor
set_option linter.unusedVariables false
open Go Go.VC Go.ChangeShapes Go.WideShapes Go.ChangeAt Go.RowKit
variable {H : Type} {enc : TypeId × Value → H} {W : World} {r : Reach} {b0 : Nat} {v : Value} {d : DataW H} {p : List MemPlace}
theorem bools_form {R : Cx} {s : Sl} {xs : List Tr} (ho : Tr.Ok R (.sl .bool) (.sl s xs)) : ∃ zs : List Bool, Ro R s (zs.map Value.bool) := by
  obtain ⟨zs, h1, h2, _⟩ := sl_form (fun z : Bool => [Value.bool z]) (fun _ => True) ho fun x hx => by
    cases x <;> simp only [Tr.Ok] at hx
    rename_i z
    exact ⟨z, rfl, trivial⟩
  refine ⟨zs, RoN.one ?_ (by simpa using h2)⟩
  rw [List.map_map]
  exact h1
set_option maxRecDepth 100000 in
theorem bools19_in (hv : Value.okWide Tryz.prog W r b0 34 v) (h : DataW.Trod enc Tryz.prog W 0 (fun _ => true) true 34 v d p) :
    ∃ (s : Sl) (bs : List Bool), v = .slice s.a s.len s.cap ∧ Ro (Cx.of W) s (bs.map Value.bool) := by
  obtain ⟨a, n, c, rfl⟩ := okWide_slice Tryz.underlying34 hv
  obtain ⟨x, hx, ho⟩ := tr_arg (d := 6) (u := .sl .bool) (by kernel_rfl) h
  cases x <;> simp only [Tr.Ok] at ho
  rename_i s xs
  have ho : Tr.Ok (Cx.of W) (.sl .bool) (.sl s xs) := by unfold Tr.Ok; exact ho
  obtain ⟨bs, h1⟩ := bools_form ho
  have e : [Value.slice s.a s.len s.cap] = [Value.slice a n c] := by simpa [Tr.cells, Value.cells] using hx
  have e := (List.cons.inj e).1
  simp only [Value.slice.injEq] at e
  obtain ⟨rfl, rfl, rfl⟩ := e
  exact ⟨s, bs, rfl, h1⟩
set_option maxRecDepth 100000 in
theorem ints19_in (hv : Value.okWide Tryz.prog W r b0 33 v) (h : DataW.Trod enc Tryz.prog W 0 (fun _ => true) true 33 v d p) :
    ∃ (s : Sl) (xs : List Int), v = .slice s.a s.len s.cap ∧ RoI (Cx.of W) s xs := by
  obtain ⟨s, xs, e, h1, _⟩ := ints_in Tryz.underlying33 Tryz.underlying3 (by kernel_rfl) hv h
  exact ⟨s, xs, e, h1⟩
end Go.Proofs.YtadnmnkbgjippaaGreatDoor
