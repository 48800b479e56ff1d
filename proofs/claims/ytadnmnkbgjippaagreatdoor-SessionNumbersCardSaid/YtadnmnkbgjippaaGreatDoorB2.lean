/- SL, part 3: rules for stores, for a slice that one owns, for append. Condition of the last: a bound on the new length. -/
import Derived.Test.YtadnmnkbgjippaaGreatDoorB1
import Derived.Deep.AppendSrc
import Derived.Deep.DeepAppendWide
import Derived.Laws.AppendOwn
import Derived.Laws.IdiomCopy
import Derived.Sort.Grow
import Derived.Lib.SliceRun
import GoSem.Instr.MapUpdate
import GoSem.Builtin.Delete
import Derived.MapKept
import Derived.Lib.ConvBytes
import Derived.Laws.BytesArg
import Derived.Laws.Strings
import Derived.Below
import Derived.Sort.KeysCollected
import Derived.Maps.Own
import Derived.Laws.BitsAllLaws
import Derived.Lib.BitFns
import Derived.KernelRfl
import Derived.Lib.AppendZeros
import Derived.Laws.MakeOwn
import Derived.Maps.RangeRun
namespace Go.VC
set_option linter.unusedVariables false
def putL : List Value → Nat → List Value → List Value
  | l, _, [] => l
  | l, o, v :: vs => putL (l.set o v) (o + 1) vs
theorem putL_len : ∀ (vs l : List Value) (o : Nat), (putL l o vs).length = l.length
  | [], _, _ => rfl
  | _ :: vs, l, o => by rw [putL, putL_len vs, List.length_set]
theorem putL_eq : ∀ (vs l : List Value) (o : Nat), o + vs.length ≤ l.length → putL l o vs = l.take o ++ vs ++ l.drop (o + vs.length)
  | [], l, o, _ => by simp [putL]
  | v :: vs, l, o, h => by
    simp only [List.length_cons] at h
    rw [putL, putL_eq vs (l.set o v) (o + 1) (by simp; omega)]
    have e1 : (l.set o v).take (o + 1) = l.take o ++ [v] := by
      rw [List.take_succ_eq_append_getElem (by simp; omega)]
      simp [List.take_set_of_le]
    have e2 : (l.set o v).drop (o + 1 + vs.length) = l.drop (o + (vs.length + 1)) := by
      rw [List.drop_set_of_lt (by omega)]; congr 1; omega
    rw [e1, e2]; simp
theorem setCell_block {w : World} {b o : Nat} {l : List Value} {T : TypeId} {fr : Nat × Nat} (h : w.heap[b]? = some (.cells l.toArray T fr)) (v : Value) :
    w.setCell ⟨b, o, none⟩ v = w.setBlock b (.cells (l.set o v).toArray T fr) := by
  unfold World.setCell World.setBlock
  congr 1
  apply Array.ext_getElem?
  intro i
  rw [Array.getElem?_modify, Array.getElem?_setIfInBounds]
  by_cases hi : b = i
  · subst hi
    obtain ⟨hlt, hg⟩ := Array.getElem?_eq_some_iff.1 h
    simp [hlt, hg]
  · simp [hi]
theorem setCells_sat {R : Cx} {Hs : List HP} {b : Nat} {T : TypeId} {fr : Nat × Nat} : ∀ (vs l : List Value) (o : Nat) (w : World), Sat R (pts b (.cells l.toArray T fr) :: Hs) w →
    Sat R (pts b (.cells (putL l o vs).toArray T fr) :: Hs) (w.setCells b o vs)
  | [], _, _, _, h => h
  | v :: vs, l, o, w, h => by
    rw [World.setCells, setCell_block h.at, putL]
    exact setCells_sat vs (l.set o v) (o + 1) _ (h.setPts _)
def okFr (n : Nat) (fr : Nat × Nat) : Prop := fr.2 = 0 ∨ n ≤ fr.1
theorem okFr.le {n m : Nat} {fr : Nat × Nat} (h : okFr n fr) (hm : m ≤ n) : okFr m fr := h.imp id fun h => Nat.le_trans hm h
theorem frozen_no {w : World} {b : Nat} {l : Array Value} {T : TypeId} {fr : Nat × Nat} {n : Nat} (h : w.heap[b]? = some (.cells l T fr)) (hf : okFr n fr) {i : Nat} (hi : i < n) : w.frozen? ⟨b, i, none⟩ = false := by
  obtain ⟨lo, hi'⟩ := fr
  simp only [World.frozen?, h]
  rcases hf with hf | hf <;> simp only at hf <;> simp <;> omega
def oneAll (vs : List Value) : Bool := vs.all (·.oneCell')
theorem store_rule {P : Program} {R : Cx} {Hs Rest : List HP} {w : World} {b o : Nat} {l : List Value} {T t : TypeId} {fr : Nat × Nat} {v : Value} {K : World → Prop}
    (hw : Sat R Hs w) [tk : TakeP b Hs (.cells l.toArray T fr) Rest] (hsz : (P.info? t).map (·.size) = some v.cells.toList.length) (h1 : oneAll v.cells.toList = true) (hb : o + v.cells.toList.length ≤ l.length)
    (k : ∀ w', Sat R (pts b (.cells (putL l o v.cells.toList).toArray T fr) :: Rest) w' → K w') (hfr : okFr l.length fr := by first | assumption | exact Or.inl rfl) :
    ∃ w', (Instr.storeAt t (.pointer (some ⟨b, o, none⟩)) v).run P w = .ok () w' ∧ K w' := by
  have hp := hw.takeP tk
  have hat := hp.at
  obtain ⟨i, hi, hsz⟩ := Option.map_eq_some_iff.1 hsz
  refine ⟨w.setCells b o v.cells.toList, ?_, k _ (setCells_sat _ _ _ _ hp)⟩
  have hst := run_storeCells_cells (P := P) b o v.cells.toList 0 w (fun j hj => by
      simp only [Nat.add_zero]
      rw [cell_of hat]; simp; omega) (fun j hj => frozen_no hat hfr (by omega)) (fun u hu => List.all_eq_true.1 h1 u hu)
  simp only [Nat.add_zero] at hst
  simp [Instr.storeAt, Instr.sureAddr, storeVar, sizeOf, typeInfo, hi, hsz, hst]
def Own (s : Sl) (T : TypeId) (xs : List Value) : HP := fun h =>
  (s = ⟨none, 0, 0⟩ ∧ xs = [] ∧ h = Heap.none) ∨ ∃ b rest fr, s = ⟨some ⟨b, 0, none⟩, xs.length, (xs ++ rest).length⟩ ∧ okFr (xs ++ rest).length fr ∧ h = Heap.one b (.cells (xs ++ rest).toArray T fr)
theorem Own.nil {R : Cx} {Hs : List HP} {w : World} {T : TypeId} (h : Sat R Hs w) : Sat R (Own ⟨none, 0, 0⟩ T [] :: Hs) w :=
  ⟨Heap.none, .inl ⟨rfl, rfl, rfl⟩, fun i hi => absurd rfl hi, by rw [Cx.add_none]; exact h⟩
theorem Own.of_pts {R : Cx} {Hs : List HP} {w : World} {T : TypeId} {b : Nat} {fr : Nat × Nat} {xs rest : List Value} (h : Sat R (pts b (.cells (xs ++ rest).toArray T fr) :: Hs) w) (hf : okFr (xs ++ rest).length fr := by first | assumption | exact Or.inl rfl) :
    Sat R (Own ⟨some ⟨b, 0, none⟩, xs.length, (xs ++ rest).length⟩ T xs :: Hs) w :=
  let ⟨a, ha, hd, hs⟩ := h; ⟨a, .inr ⟨b, rest, fr, rfl, hf, ha⟩, hd, hs⟩
theorem Own.cases {R : Cx} {Hs : List HP} {w : World} {T : TypeId} {s : Sl} {xs : List Value} (h : Sat R (Own s T xs :: Hs) w) :
    (s = ⟨none, 0, 0⟩ ∧ xs = [] ∧ Sat R Hs w) ∨ ∃ b rest fr, s = ⟨some ⟨b, 0, none⟩, xs.length, (xs ++ rest).length⟩ ∧ okFr (xs ++ rest).length fr ∧ Sat R (pts b (.cells (xs ++ rest).toArray T fr) :: Hs) w := by
  obtain ⟨a, ha, hd, hs⟩ := h
  rcases ha with ⟨h1, h2, rfl⟩ | ⟨b, rest, fr, h1, hf, rfl⟩
  · rw [Cx.add_none] at hs; exact .inl ⟨h1, h2, hs⟩
  · exact .inr ⟨b, rest, fr, h1, hf, _, rfl, hd, hs⟩
theorem Own.len {R : Cx} {Hs : List HP} {w : World} {T : TypeId} {s : Sl} {xs : List Value} (h : Sat R (Own s T xs :: Hs) w) : s.len = xs.length := by
  rcases Own.cases h with ⟨rfl, rfl, _⟩ | ⟨b, rest, fr, rfl, _, _⟩ <;> rfl
theorem Own.lend {R : Cx} {Hs : List HP} {w : World} {T : TypeId} {s : Sl} {xs : List Value} (h : Sat R (Own s T xs :: Hs) w) (hb : xs.length ≤ 9223372036854775807) :
    ∃ R' : Cx, Ro R' s xs ∧ (∀ s' xs', Ro R s' xs' → Ro R' s' xs') ∧ Sat R' Hs w ∧ ∀ {Hs' w'}, Sat R' Hs' w' → Sat R (Own s T xs :: Hs') w' := by
  rcases Own.cases h with ⟨rfl, rfl, h2⟩ | ⟨b, rest, fr, rfl, hf, h2⟩
  · exact ⟨R, ⟨rfl, by simp, fun h => absurd rfl h⟩, fun _ _ h => h, h2, fun h => Own.nil h⟩
  · obtain ⟨hn, h3⟩ := Sat.lend.1 h2
    refine ⟨_, ⟨rfl, hb, fun _ => ⟨b, 0, _, T, fr, rfl, Cx.lent hn, fun i v hv => ?_⟩⟩, fun _ _ h => h.add, h3, fun h => Own.of_pts (Sat.lend.2 ⟨hn, h⟩)⟩
    obtain ⟨hi, rfl⟩ := List.getElem?_eq_some_iff.1 hv
    simp [List.getElem?_append_left hi]
def elB (P : Program) (T : TypeId) (bytes : Nat) : Bool :=
  match P.info? T with
  | some i => match i.zero with
    | some z => i.size == 1 && i.bytes == bytes && z.cells.size == 1
    | none => false
  | none => false
theorem elB_out {P : Program} {T : TypeId} {bytes : Nat} (h : elB P T bytes = true) : ∃ i z, P.info? T = some i ∧ i.zero = some z ∧ i.size = 1 ∧ i.bytes = bytes ∧ z.cells.size = 1 := by
  unfold elB at h
  split at h
  · rename_i i hi
    split at h
    · rename_i z hz
      simp only [Bool.and_eq_true, beq_iff_eq] at h
      exact ⟨i, z, hi, hz, h.1.1, h.1.2, h.2⟩
    · cases h
  · cases h
structure El (P : Program) (t1 t2 T : TypeId) (bytes : Nat) : Prop where
  ht : P.underlying t1 = some (.slice T)
  hk : ∃ e', P.underlying t2 = some (.slice e')
  hi : elB P T bytes = true
theorem append_rule {P : Program} {t1 t2 ty T : TypeId} {bytes : Nat} (E : El P t1 t2 T bytes) {R : Cx} {Hs : List HP} {w : World} {s : Sl} {xs ys : List Value} {src : Value} {n : Nat} {K : Sl → World → Prop}
    (hw : Sat R (Own s T xs :: Hs) w) (hs : Src P 1 t2 src n ys w) (h1 : oneAll xs = true) (hb : 2 * (xs.length + n) * bytes ≤ 281474976710656) (hb' : xs.length + n ≤ 9223372036854775807)
    (k : ∀ s' w', Sat R (Own s' T (xs ++ ys) :: Hs) w' → K s' w') :
    ∃ w', ∃ t : Sl, (Builtin.append_ #[t1, t2] ty #[.slice s.a s.len s.cap, src]).run P w = .ok (.slice t.a t.len t.cap) w' ∧ K t w' := by
  obtain ⟨i, z, hi, hz, hsize, hbytes, hzc⟩ := elB_out E.hi
  have hyn : ys.length = n := by have := hs.newsLen; simpa using this
  have hs' : Src P i.size t2 src n ys w := by rw [hsize]; exact hs
  have hlen := Own.len hw
  have fit : ∀ cap, cap < xs.length + n → Builtin.nextslicecap (xs.length + n) cap * i.bytes ≤ 281474976710656 := fun cap hc => by
    have h2 : Builtin.nextslicecap (xs.length + n) cap ≤ 2 * (xs.length + n) := by
      unfold Builtin.nextslicecap
      split
      · omega
      · split
        · omega
        · have := nextslicecap_le_wide hc
          unfold Builtin.nextslicecap at this
          rw [if_neg (by assumption), if_neg (by assumption)] at this
          omega
    rw [hbytes]
    exact Nat.le_trans (Nat.mul_le_mul_right _ h2) hb
  -- a new row
  have grow : ∀ (base : Option Addr) (cap : Nat) (olds : List Value), olds = xs → cap < xs.length + n → (Builtin.firstCells i.size xs.length (.slice base xs.length cap)).run P w.drew = .ok olds.toArray w.drew → Sat R Hs w →
      ∃ w', ∃ t : Sl, (Builtin.append_ #[t1, t2] ty #[.slice base xs.length cap, src]).run P w = .ok (.slice t.a t.len t.cap) w' ∧ K t w' := fun base cap olds ho hc hold hw => by
    have hr := run_append_grow_src w t1 t2 ty T i z E.ht hi hz base xs.length cap olds hold src n ys hs' hc (by omega) (fit cap hc)
    refine ⟨_, ⟨some ⟨w.heap.size, 0, none⟩, xs.length + n, grownCap w (xs.length + n) cap T⟩, hr, k _ _ ?_⟩
    have hz0 : (Builtin.zeroCells z.cells (grownCap w (xs.length + n) cap T - (xs.length + n))).size = grownCap w (xs.length + n) cap T - (xs.length + n) := by
      simp [Builtin.zeroCells, hzc]
    have hg := grownCap_ge w (xs.length + n) cap T
    have ho' : Obj.cells ((olds ++ ys).toArray ++ Builtin.zeroCells z.cells (grownCap w (xs.length + n) cap T - (xs.length + n))) T = .cells ((xs ++ ys) ++ (Builtin.zeroCells z.cells (grownCap w (xs.length + n) cap T - (xs.length + n))).toList).toArray T (0, 0) := by
      rw [ho]
      congr 1
      apply Array.ext'; simp
    have := Sat.alloc (Obj.cells ((olds ++ ys).toArray ++ Builtin.zeroCells z.cells (grownCap w (xs.length + n) cap T - (xs.length + n))) T) (Sat.drew hw)
    rw [ho'] at this ⊢
    have h3 := Own.of_pts this
    have e : (⟨some ⟨w.drew.heap.size, 0, none⟩, (xs ++ ys).length, (xs ++ ys ++ (Builtin.zeroCells z.cells (grownCap w (xs.length + n) cap T - (xs.length + n))).toList).length⟩ : Sl) = ⟨some ⟨w.heap.size, 0, none⟩, xs.length + n, grownCap w (xs.length + n) cap T⟩ := by
      simp only [List.length_append, Array.length_toList, hz0, World.size_drew, hyn]
      congr 1
      omega
    rw [e] at h3
    exact h3
  rcases Own.cases hw with ⟨rfl, rfl, hz2⟩ | ⟨b, rest, fr, rfl, hfr, hp⟩
  · by_cases hn0 : n = 0
    · subst hn0
      have hy : ys = [] := List.length_eq_zero_iff.1 hyn
      subst hy
      obtain ⟨e', he'⟩ := E.hk
      refine ⟨w, ⟨none, 0, 0⟩, ?_, k _ _ (by simpa using Own.nil hz2)⟩
      have hcz := hs'.cells
      simp [Builtin.append_, run_underlying E.ht, run_underlying he', sizeOf, typeInfo, hi, hs'.len, hcz]
    · exact grow none 0 [] rfl (by simp; omega) (run_firstCells_none w.drew i.size 0 0 0) hz2
  · by_cases hroom : xs.length + n ≤ (xs ++ rest).length
    · have hat := hp.at
      have hr := run_append_room_src w t1 t2 ty T i E.ht hi b 0 xs.length (xs ++ rest).length src n ys hs' hroom
        (fun j hj => by rw [cell_of hat, hsize]; simp at hroom ⊢; omega) (fun j hj => frozen_no hat hfr (by rw [hsize, Nat.mul_one]; simp only [List.length_append] at hroom ⊢; omega))
      refine ⟨_, ⟨some ⟨b, 0, none⟩, xs.length + n, (xs ++ rest).length⟩, hr, k _ _ ?_⟩
      have h2 := setCells_sat ys (xs ++ rest) xs.length w hp
      have e1 : putL (xs ++ rest) xs.length ys = (xs ++ ys) ++ rest.drop n := by
        rw [putL_eq _ _ _ (by rw [hyn]; exact hroom), List.take_left', List.drop_append]
        · simp [hyn]
        · rfl
      rw [e1] at h2
      rw [hsize, Nat.zero_add, Nat.mul_one]
      have h3 := Own.of_pts h2 (hfr.le (by simp only [List.length_append, List.length_drop] at hroom ⊢; omega))
      have e : (⟨some ⟨b, 0, none⟩, (xs ++ ys).length, (xs ++ ys ++ rest.drop n).length⟩ : Sl) = ⟨some ⟨b, 0, none⟩, xs.length + n, (xs ++ rest).length⟩ := by
        simp only [List.length_append, List.length_drop, hyn] at hroom ⊢
        congr 1
        omega
      rw [e] at h3
      exact h3
    · have hat := hp.at
      refine grow (some ⟨b, 0, none⟩) (xs ++ rest).length xs rfl (by omega) ?_ hp.drop
      refine run_firstCells_some w.drew i.size xs.length ⟨b, 0, none⟩ xs.length _ xs (by rw [hsize]; simp) ?_
      intro j u hj
      rw [World.cell?_drew, add_off, cell_of hat, Nat.zero_add]
      obtain ⟨hlt, rfl⟩ := List.getElem?_eq_some_iff.1 hj
      simp [List.getElem?_append_left hlt]
theorem Src_one {P : Program} {t2 : TypeId} (hk : ∃ e', P.underlying t2 = some (.slice e')) {R : Cx} {Hs Rest : List HP} {w : World} {b : Nat} {x : Value} {T : TypeId} {fr : Nat × Nat} (c : Nat)
    (hw : Sat R Hs w) [t : TakeP b Hs (.cells [x].toArray T fr) Rest] (h1 : x.oneCell' = true) : Src P 1 t2 (.slice (some ⟨b, 0, none⟩) 1 c) 1 [x] w := by
  obtain ⟨e', he'⟩ := hk
  refine Go.Src.ofSlice w he' _ 1 c [x] rfl ?_ ?_
  · intro j u hj
    have := hw.look b
    rw [add_off, cell_of this]; simpa using hj
  · intro u hu; simp at hu; subst hu; exact h1
theorem push_rule {P : Program} {t1 t2 ty T T' : TypeId} {bytes : Nat} (E : El P t1 t2 T bytes) {R : Cx} {Hs : List HP} {w : World} {s : Sl} {xs : List Value} {x : Value} {K : Sl → World → Prop}
    (hw : Sat R (Own s T xs :: Hs) w) (h1 : oneAll xs = true) (hx : x.oneCell' = true) (hb : 2 * (xs.length + 1) * bytes ≤ 281474976710656) (hb' : xs.length + 1 ≤ 9223372036854775807)
    (k : ∀ s' w', Sat R (Own s' T (xs ++ [x]) :: Hs) w' → K s' w') :
    New (.cells #[x] T' (0, 0)) (fun b w => ∃ w', ∃ t : Sl, (Builtin.append_ #[t1, t2] ty #[.slice s.a s.len s.cap, .slice (some ⟨b, 0, none⟩) 1 1]).run P w = .ok (.slice t.a t.len t.cap) w' ∧ K t w') w := by
  refine new_rule hw fun b w hw => ?_
  have hw : Sat R (pts b (.cells [x].toArray T' (0, 0)) :: Own s T xs :: Hs) w := hw
  exact append_rule E hw.swap (Src_one E.hk 1 hw hx) h1 hb hb' fun s' w' h => k s' w' h.swap.drop
end Go.VC
/- SL, part 4: what a sort leaves; elements of a row of ints of one's own. No condition. -/
namespace Go.VC
set_option linter.unusedVariables false
theorem Pre.refl : ∀ l : List Value, Pre l l
  | [] => trivial
  | _ :: l => ⟨rfl, Pre.refl l⟩
theorem Own.lendI {R : Cx} {Hs : List HP} {w : World} {T : TypeId} {s : Sl} {xs : List Int} (h : Sat R (Own s T (xs.map (Value.int .i64)) :: Hs) w) (hb : xs.length ≤ 9223372036854775807) :
    ∃ R' : Cx, RoI R' s xs ∧ (∀ s' xs', Ro R s' xs' → Ro R' s' xs') ∧ Sat R' Hs w ∧ ∀ {Hs' w'}, Sat R' Hs' w' → Sat R (Own s T (xs.map (Value.int .i64)) :: Hs') w' :=
  Own.lend h (by simpa using hb)
end Go.VC
/- SL, part 5: elements of a slice of one's own, loads, stores, clear; stores of structs. No condition. -/
namespace Go.VC
set_option linter.unusedVariables false
variable {P : Program} {R : Cx} {Hs Rest : List HP} {w : World} {s : Sl} {T : TypeId}
theorem Own.addr {xs : List Value} (hw : Sat R (Own s T xs :: Hs) w) {k : Nat} (hk : k < xs.length) : ∃ b, s.a = some ⟨b, 0, none⟩ ∧
    ∀ {S : World → Prop} {Hs'}, (∀ w, S w → Sat R (Own s T xs :: Hs') w) → At S (Addr.add ⟨b, 0, none⟩ k) [xs[k]] := by
  rcases Own.cases hw with ⟨_, rfl, _⟩ | ⟨b, rest, fr, rfl, _, _⟩
  · simp at hk
  · refine ⟨b, rfl, fun hS w hs i v hv => ?_⟩
    have hi : i = 0 := by
      cases i with
      | zero => rfl
      | succ i => simp at hv
    subst hi
    simp only [List.getElem?_cons_zero, Option.some.injEq] at hv
    subst hv
    rcases Own.cases (hS w hs) with ⟨h0, _, _⟩ | ⟨b', rest', fr', he, _, h⟩
    · cases h0
    · simp only [Sl.mk.injEq, Option.some.injEq, Addr.mk.injEq, and_true] at he
      obtain ⟨rfl, _⟩ := he
      rw [add_off, add_off, cell_of h.at]
      simp [List.getElem?_append_left hk]
theorem Own.cap {xs : List Value} (hw : Sat R (Own s T xs :: Hs) w) : s.len ≤ s.cap := by
  rcases Own.cases hw with ⟨rfl, _, _⟩ | ⟨b, rest, fr, rfl, _, _⟩
  · exact Nat.le_refl _
  · simp
theorem Own.idx {kd : IntKind} {xs : List Int} {S : World → Prop} {Hs' : List HP} (hw : Sat R (Own s T (xs.map (Value.int kd)) :: Hs) w) (hS : ∀ w, S w → Sat R (Own s T (xs.map (Value.int kd)) :: Hs') w) {k : Nat} (hk : k < xs.length) {F : Int → Prop} (h : F xs[k]) :
    Rng (k : Int) s.len (NilP s.a fun a => ∃ t : Int, (At S (a.add (k : Int).toNat) [.int kd t]) ∧ F t) := by
  obtain ⟨b, ha, hat⟩ := Own.addr hw (k := k) (by simpa using hk)
  have hl := Own.len hw
  rw [List.length_map] at hl
  refine Rng.mk (by omega) (by omega) (NilP.mk ha ⟨xs[k], ?_, h⟩)
  have := hat hS
  simpa using this
theorem Own.store {t : TypeId} {kd : IntKind} {xs : List Int} (hsz : (P.info? t).map (·.size) = some 1) (hw : Sat R (Own s T (xs.map (Value.int kd)) :: Hs) w) {k : Nat} (hk : k < xs.length) {x : Int} {K : World → Prop}
    (h : ∀ w', Sat R (Own s T ((xs.set k x).map (Value.int kd)) :: Hs) w' → K w') :
    Rng (k : Int) s.len (NilP s.a fun a => ∃ w', (Instr.storeAt t (.pointer (some (Addr.add a (k : Int).toNat))) (.int kd x)).run P w = .ok () w' ∧ K w') := by
  have hl := Own.len hw
  rw [List.length_map] at hl
  rcases Own.cases hw with ⟨_, h0, _⟩ | ⟨b, rest, fr, rfl, hfr, hp⟩
  · simp at h0; subst h0; simp at hk
  · refine Rng.mk (by omega) (by simp only at hl ⊢; omega) (NilP.mk rfl ?_)
    rw [add_off]
    refine store_rule hp (by rw [hsz]; rfl) rfl (by simp [Value.cells]; omega) fun w' h2 => h w' ?_
    have e : putL (xs.map (Value.int kd) ++ rest) (0 + (k : Int).toNat) (Value.int kd x).cells.toList = (xs.set k x).map (Value.int kd) ++ rest := by
      simp only [putL, Value.cells, Nat.zero_add, Int.toNat_natCast]
      rw [List.set_append_left _ _ (by simpa using hk), List.map_set]
    rw [e] at h2
    have h3 := Own.of_pts h2 (hfr.le (by simp))
    simpa using h3
end Go.VC
/- SL, part 6: maps with keys that are strings or integers: lookup, update, delete. No condition. -/
namespace Go.VC
set_option linter.unusedVariables false
class KeyK (α : Type) [BEq α] where
  enc : α → Value
  desc : TypeDesc
  same : ∀ a b, Instr.sameNow desc (enc a) (enc b) = some (a == b)
  bits : ∀ a, Instr.sameBits 10000 (enc a) (enc a) = true
  eq : ∀ a b : α, (a == b) = true → a = b
  check : ∀ (P : Program) (em : Bool) (K : TypeId) (a : α) (w : World), P.underlying K = some desc → (Instr.checkKey em 10000 K (enc a)).run P w = .ok () w
instance : KeyK ByteArray where
  enc := Value.string
  desc := .string
  same a b := rfl
  bits a := by
    have : ∀ n, Instr.sameBits n (.string a) (.string a) = (a == a) := fun n => by cases n <;> rfl
    rw [this]; exact (MapKept.bytes_beq a a).2 rfl
  eq a b h := (MapKept.bytes_beq a b).1 h
  check P em K a w h := by
    show (Instr.checkKey em (9999 + 1) K (.string a)).run P w = _
    unfold Instr.checkKey
    simp [run_underlying h]
variable {α : Type} [BEq α] [KeyK α]
abbrev En (α : Type) := α × Value × Nat
def mkE (e : En α) : MapEntry := { key := KeyK.enc e.1, val := e.2.1, born := e.2.2 }
def getE (k : α) : List (En α) → Option Value
  | [] => none
  | e :: es => if k == e.1 then some e.2.1 else getE k es
def setE (k : α) (v : Value) : List (En α) → List (En α)
  | [] => []
  | e :: es => if k == e.1 then (e.1, v, e.2.2) :: es else e :: setE k v es
def delE (k : α) : List (En α) → List (En α)
  | [] => []
  | e :: es => if k == e.1 then es else e :: delE k es
def hasE (k : α) (es : List (En α)) : Bool := (getE k es).isSome
def putE (k : α) (v : Value) (es : List (En α)) (clock : Nat) : List (En α) := if hasE k es then setE k v es else es ++ [(k, v, clock)]
def idxE (k : α) : List (En α) → Nat → Option (Nat × Value)
  | [], _ => none
  | e :: es, i => if k == e.1 then some (i, e.2.1) else idxE k es (i + 1)
theorem findNow_eq (k : α) : ∀ (es : List (En α)) (i : Nat), Instr.findNow (KeyK.desc α) (KeyK.enc k) (es.map mkE) i = some (idxE k es i)
  | [], _ => rfl
  | e :: es, i => by
    rw [List.map_cons, Instr.findNow, mkE, KeyK.same, idxE]
    cases h : (k == e.1)
    · simpa using findNow_eq k es (i + 1)
    · rfl
omit [KeyK α] in
theorem idxE_val (k : α) : ∀ (es : List (En α)) (i : Nat), (idxE k es i).map (·.2) = getE k es
  | [], _ => rfl
  | e :: es, i => by
    rw [idxE, getE]
    cases h : (k == e.1)
    · exact idxE_val k es (i + 1)
    · rfl
theorem run_findKey {P : Program} {K : TypeId} (hK : P.underlying K = some (KeyK.desc α)) (k : α) (es : List (En α)) (w : World) :
    (Instr.findKey K (KeyK.enc k) (es.map mkE)).run P w = .ok (idxE k es 0) w := by
  unfold Instr.findKey
  simp [run_underlying hK, findNow_eq]
theorem run_keyThatStays {P : Program} (k : α) (w : World) : (Instr.keyThatStays (KeyK.enc k) (KeyK.enc k)).run P w = .ok (KeyK.enc k) w := by
  unfold Instr.keyThatStays
  rw [if_pos (KeyK.bits k)]; rfl
theorem lookup_run {P : Program} {T K E : TypeId} (hT : P.underlying T = some (.map K E)) (hK : P.underlying K = some (KeyK.desc α)) {z : Value} (hz : ∀ w, (zeroValue E).run P w = .ok z w)
    {w : World} {m clock : Nat} {es : List (En α)} (hm : w.heap[m]? = some (.map (es.map mkE).toArray clock)) (k : α) (c : Bool) :
    (Instr.lookup T (.map (some m)) (KeyK.enc k) c).run P w = .ok (if c then .tuple #[(getE k es).getD z, .bool (hasE k es)] else (getE k es).getD z) w := by
  have hv := idxE_val k es 0
  have hck := KeyK.check P (es.map mkE).toArray.isEmpty K k w hK
  have hfk := run_findKey hK k es w
  unfold Instr.lookup
  cases hi : idxE k es 0 with
  | none =>
    rw [hi] at hv hfk
    simp only [Option.map_none] at hv
    simp only [Sem.run_bind, run_underlying hT, Result.andThen, MapKept.run_getObj_map hm, Sem.run_pure, hck, hfk, hz, hasE, ← hv]
    rfl
  | some p =>
    rw [hi] at hv hfk
    simp only [Option.map_some] at hv
    simp only [Sem.run_bind, run_underlying hT, Result.andThen, MapKept.run_getObj_map hm, Sem.run_pure, hck, hfk, hasE, ← hv]
    rfl
omit [KeyK α] in
theorem idxE_set (k : α) : ∀ (es : List (En α)) (i : Nat), (∀ p, idxE k es i = some p → i ≤ p.1)
  | [], i, p, h => by cases h
  | e :: es, i, p, h => by
    rw [idxE] at h
    cases hk : (k == e.1)
    · rw [hk] at h; have := idxE_set k es (i + 1) p (by simpa using h); omega
    · rw [hk] at h; simp at h; subst h; exact Nat.le_refl _
theorem modify_eq (k : α) (v : Value) : ∀ (es : List (En α)) (i : Nat) (p : Nat × Value), idxE k es i = some p →
    (es.map mkE).modify (p.1 - i) (fun e => { e with key := KeyK.enc k, val := v }) = (setE k v es).map mkE
  | [], _, _, h => by cases h
  | e :: es, i, p, h => by
    have hle := idxE_set k (e :: es) i p h
    rw [idxE] at h
    cases hk : (k == e.1)
    · rw [hk] at h
      have h' : idxE k es (i + 1) = some p := by simpa using h
      have hle2 := idxE_set k es (i + 1) p h'
      obtain ⟨j, hj⟩ : ∃ j, p.1 - i = j + 1 := ⟨p.1 - (i + 1), by omega⟩
      have ih := modify_eq k v es (i + 1) p h'
      rw [show p.1 - (i + 1) = j by omega] at ih
      rw [hj, setE, hk]
      simp only [List.map_cons, List.modify_succ_cons, Bool.false_eq_true, if_false, List.cons.injEq, true_and]
      exact ih
    · rw [hk] at h
      simp at h; subst h
      have := KeyK.eq _ _ hk
      subst this
      rw [setE, hk]
      simp [mkE]
theorem erase_eq (k : α) : ∀ (es : List (En α)) (i : Nat) (p : Nat × Value), idxE k es i = some p → (es.map mkE).eraseIdx (p.1 - i) = (delE k es).map mkE
  | [], _, _, h => by cases h
  | e :: es, i, p, h => by
    rw [idxE] at h
    cases hk : (k == e.1)
    · rw [hk] at h
      have h' : idxE k es (i + 1) = some p := by simpa using h
      have hle2 := idxE_set k es (i + 1) p h'
      obtain ⟨j, hj⟩ : ∃ j, p.1 - i = j + 1 := ⟨p.1 - (i + 1), by omega⟩
      have ih := erase_eq k es (i + 1) p h'
      rw [show p.1 - (i + 1) = j by omega] at ih
      rw [hj, delE, hk]
      simp only [List.map_cons, List.eraseIdx_cons_succ, Bool.false_eq_true, if_false, List.cons.injEq, true_and]
      exact ih
    · rw [hk] at h
      simp at h; subst h
      rw [delE, hk]; simp
omit [KeyK α] in
theorem idxE_none (k : α) (es : List (En α)) (i : Nat) : idxE k es i = none ↔ hasE k es = false := by
  unfold hasE; rw [← idxE_val k es i]; cases idxE k es i <;> simp
omit [KeyK α] in
theorem delE_none (k : α) : ∀ (es : List (En α)), hasE k es = false → delE k es = es
  | [], _ => rfl
  | e :: es, h => by
    unfold hasE getE at h
    cases hk : (k == e.1)
    · rw [hk] at h
      rw [delE, hk]
      simp only [Bool.false_eq_true, if_false, List.cons.injEq, true_and]
      exact delE_none k es (by unfold hasE; simpa using h)
    · rw [hk] at h; simp at h
theorem idxE_lt (k : α) : ∀ (es : List (En α)) (i : Nat) (p : Nat × Value), idxE k es i = some p → p.1 < i + es.length ∧ ∃ e, (es.map mkE)[p.1 - i]? = some e ∧ e.key = KeyK.enc k
  | [], _, _, h => by cases h
  | e :: es, i, p, h => by
    rw [idxE] at h
    cases hk : (k == e.1)
    · rw [hk] at h
      have h' : idxE k es (i + 1) = some p := by simpa using h
      have hle2 := idxE_set k es (i + 1) p h'
      obtain ⟨h1, e', h2, h3⟩ := idxE_lt k es (i + 1) p h'
      refine ⟨by simp only [List.length_cons]; omega, e', ?_, h3⟩
      obtain ⟨j, hj⟩ : ∃ j, p.1 - i = j + 1 := ⟨p.1 - (i + 1), by omega⟩
      rw [hj, List.map_cons, List.getElem?_cons_succ, show j = p.1 - (i + 1) by omega]
      exact h2
    · rw [hk] at h
      simp at h; subst h
      refine ⟨by simp, mkE e, by simp, ?_⟩
      rw [KeyK.eq _ _ hk]; rfl
theorem update_run {P : Program} {T K E : TypeId} (hT : P.underlying T = some (.map K E)) (hK : P.underlying K = some (KeyK.desc α))
    {w : World} {m clock : Nat} {es : List (En α)} (hm : w.heap[m]? = some (.map (es.map mkE).toArray clock)) (k : α) (v : Value) :
    (Instr.mapUpdate T (.map (some m)) (KeyK.enc k) v).run P w = .ok () (w.setBlock m (.map ((putE k v es clock).map mkE).toArray (if hasE k es then clock else clock + 1))) := by
  have hck := KeyK.check P false K k w hK
  have hfk := run_findKey hK k es w
  unfold Instr.mapUpdate
  cases hi : idxE k es 0 with
  | none =>
    have hn := (idxE_none k es 0).1 hi
    rw [hi] at hfk
    simp only [Sem.run_bind, run_underlying hT, Result.andThen, MapKept.run_getObj_map hm, hck, hfk, MapKept.run_setObj_map _ hm, putE, hn, World.setBlock, Bool.false_eq_true, if_false]
    simp [mkE]
  | some p =>
    have hh : hasE k es = true := by
      cases h : hasE k es
      · rw [(idxE_none k es 0).2 h] at hi; cases hi
      · rfl
    obtain ⟨_, e, he, hek⟩ := idxE_lt k es 0 p hi
    have hmod := modify_eq k v es 0 p hi
    rw [Nat.sub_zero] at he hmod
    rw [hi] at hfk
    have hkey : (((es.map mkE).toArray[p.1]?).map (·.key)).getD (KeyK.enc k) = KeyK.enc k := by
      have : (es.map mkE).toArray[p.1]? = some e := by simpa using he
      rw [this]; exact hek
    simp only [Sem.run_bind, run_underlying hT, Result.andThen, MapKept.run_getObj_map hm, hck, hfk, hkey, run_keyThatStays, MapKept.run_setObj_map _ hm, putE, hh, World.setBlock, if_true]
    congr 4
    apply Array.ext'
    rw [← hmod]
    simp
theorem delete_run {P : Program} {T K E ty t2 : TypeId} (hT : P.underlying T = some (.map K E)) (hK : P.underlying K = some (KeyK.desc α))
    {w : World} {m clock : Nat} {es : List (En α)} (hm : w.heap[m]? = some (.map (es.map mkE).toArray clock)) (k : α) :
    (Builtin.delete_ #[T, t2] ty #[.map (some m), KeyK.enc k]).run P w = .ok (.tuple #[]) (w.setBlock m (.map ((delE k es).map mkE).toArray clock)) := by
  have hck := KeyK.check P (es.map mkE).toArray.isEmpty K k w hK
  have hfk := run_findKey hK k es w
  have h0 : (#[T, t2] : Array TypeId)[0]? = some T := rfl
  have h1 : (#[Value.map (some m), KeyK.enc k] : Array Value)[0]? = some (.map (some m)) := rfl
  have h2 : (#[Value.map (some m), KeyK.enc k] : Array Value)[1]? = some (KeyK.enc k) := rfl
  unfold Builtin.delete_
  rw [h0, h1, h2]
  cases hi : idxE k es 0 with
  | none =>
    have hn := (idxE_none k es 0).1 hi
    rw [hi] at hfk
    simp only [Sem.run_bind, run_underlying hT, Result.andThen, MapKept.run_getObj_map hm, hck, hfk, MapKept.run_setObj_map _ hm, World.setBlock, delE_none k es hn, Sem.run_pure]
  | some p =>
    have her := erase_eq k es 0 p hi
    obtain ⟨hlt, _⟩ := idxE_lt k es 0 p hi
    rw [Nat.sub_zero] at her
    rw [hi] at hfk
    have e : (es.map mkE).toArray.eraseIdxIfInBounds p.1 = ((delE k es).map mkE).toArray := by
      apply Array.ext'
      rw [← her]
      simp [Array.eraseIdxIfInBounds, show p.1 < es.length by omega]
    simp only [Sem.run_bind, run_underlying hT, Result.andThen, MapKept.run_getObj_map hm, hck, hfk, MapKept.run_setObj_map _ hm, World.setBlock, e, Sem.run_pure]
end Go.VC
/- SL, part 7: a map of one's own, by its keys and values; opening of what holds for some x. No condition. -/
namespace Go.VC
set_option linter.unusedVariables false
variable {α : Type} [BEq α] [KeyK α]
def getM {β : Type} (k : α) : List (α × β) → Option β
  | [] => none
  | e :: es => if k == e.1 then some e.2 else getM k es
def setM {β : Type} (k : α) (v : β) : List (α × β) → List (α × β)
  | [] => []
  | e :: es => if k == e.1 then (e.1, v) :: es else e :: setM k v es
def delM {β : Type} (k : α) : List (α × β) → List (α × β)
  | [] => []
  | e :: es => if k == e.1 then es else e :: delM k es
def putM {β : Type} (k : α) (v : β) (es : List (α × β)) : List (α × β) := if (getM k es).isSome then setM k v es else es ++ [(k, v)]
abbrev strip (es : List (En α)) : List (α × Value) := es.map fun e => (e.1, e.2.1)
omit [KeyK α] in
theorem getE_strip (k : α) : ∀ es : List (En α), getE k es = getM k (strip es)
  | [] => rfl
  | e :: es => by rw [getE, strip, List.map_cons, getM, getE_strip k es]
omit [KeyK α] in
theorem hasE_strip (k : α) (es : List (En α)) : hasE k es = (getM k (strip es)).isSome := by unfold hasE; rw [getE_strip]
omit [KeyK α] in
theorem setE_strip (k : α) (v : Value) : ∀ es : List (En α), strip (setE k v es) = setM k v (strip es)
  | [] => rfl
  | e :: es => by
    have ih := setE_strip k v es
    unfold strip at *
    rw [List.map_cons, setE, setM]
    split
    · simp
    · simp [ih]
omit [KeyK α] in
theorem delE_strip (k : α) : ∀ es : List (En α), strip (delE k es) = delM k (strip es)
  | [] => rfl
  | e :: es => by
    have ih := delE_strip k es
    unfold strip at *
    rw [List.map_cons, delE, delM]
    split
    · rfl
    · simp [ih]
omit [KeyK α] in
theorem putE_strip (k : α) (v : Value) (es : List (En α)) (c : Nat) : strip (putE k v es c) = putM k v (strip es) := by
  unfold putE putM
  rw [hasE_strip]
  split
  · exact setE_strip k v es
  · simp [strip]
def StampsOk (l : List (En α)) (c : Nat) : Prop := (∀ e ∈ l, e.2.2 < c) ∧ (l.map (·.2.2)).Nodup
omit [KeyK α] in
theorem setE_stamps (k : α) (v : Value) : ∀ l : List (En α), (setE k v l).map (·.2.2) = l.map (·.2.2)
  | [] => rfl
  | e :: es => by
    rw [setE]
    split
    · rfl
    · rw [List.map_cons, List.map_cons, setE_stamps k v es]
omit [KeyK α] in
theorem delE_sub (k : α) : ∀ l : List (En α), (delE k l).Sublist l
  | [] => List.Sublist.refl _
  | e :: es => by
    rw [delE]
    split
    · exact List.sublist_cons_self _ _
    · exact (delE_sub k es).cons_cons _
omit [KeyK α] in
theorem stamps_put {l : List (En α)} {c : Nat} (h : StampsOk l c) (k : α) (v : Value) : StampsOk (putE k v l c) (if hasE k l then c else c + 1) := by
  unfold putE
  split
  · refine ⟨fun e he => ?_, by rw [setE_stamps]; exact h.2⟩
    have : e.2.2 ∈ (setE k v l).map (·.2.2) := List.mem_map_of_mem he
    rw [setE_stamps] at this
    obtain ⟨x, hx, hxe⟩ := List.mem_map.1 this
    rw [← hxe]; exact h.1 x hx
  · refine ⟨fun e he => ?_, ?_⟩
    · rcases List.mem_append.1 he with he | he
      · have := h.1 e he; omega
      · simp at he; subst he; simp
    · rw [List.map_append, List.nodup_append]
      refine ⟨h.2, by simp, fun x hx y hy => ?_⟩
      simp at hy
      obtain ⟨e, he, rfl⟩ := List.mem_map.1 hx
      have := h.1 e he
      omega
omit [KeyK α] in
theorem stamps_del {l : List (En α)} {c : Nat} (h : StampsOk l c) (k : α) : StampsOk (delE k l) c :=
  ⟨fun e he => h.1 e ((delE_sub k l).subset he), ((delE_sub k l).map _).nodup h.2⟩
def MapAt (m : Nat) (es : List (α × Value)) : HP := fun h => ∃ (l : List (En α)) (c : Nat), strip l = es ∧ StampsOk l c ∧ h = Heap.one m (.map (l.map mkE).toArray c)
theorem MapAt.iff {R : Cx} {Hs : List HP} {w : World} {m : Nat} {es : List (α × Value)} : Sat R (MapAt m es :: Hs) w ↔ ∃ l c, strip l = es ∧ StampsOk l c ∧ Sat R (pts m (.map (l.map (mkE (α := α))).toArray c) :: Hs) w := by
  constructor
  · rintro ⟨a, ⟨l, c, h1, h3, h2⟩, hd, hs⟩; exact ⟨l, c, h1, h3, a, h2, hd, hs⟩
  · rintro ⟨l, c, h1, h3, a, h2, hd, hs⟩; exact ⟨a, ⟨l, c, h1, h3, h2⟩, hd, hs⟩
structure MapT (P : Program) (T : TypeId) (α : Type) [BEq α] [KeyK α] (K E : TypeId) (z : Value) : Prop where
  hT : P.underlying T = some (.map K E)
  hK : P.underlying K = some (KeyK.desc α)
  hz : ∀ w, (zeroValue E).run P w = .ok z w
variable {P : Program} {R : Cx} {Hs : List HP} {w : World} {m : Nat} {es : List (α × Value)} {T K E : TypeId} {z : Value}
theorem MapAt.look (M : MapT P T α K E z) (hw : Sat R (MapAt m es :: Hs) w) (k : α) (c : Bool) :
    (Instr.lookup T (.map (some m)) (KeyK.enc k) c).run P w = .ok (if c then .tuple #[(getM k es).getD z, .bool (getM k es).isSome] else (getM k es).getD z) w := by
  obtain ⟨l, clk, rfl, _, hp⟩ := MapAt.iff.1 hw
  rw [lookup_run M.hT M.hK M.hz hp.at k c, getE_strip, hasE_strip]
theorem MapAt.put (M : MapT P T α K E z) (hw : Sat R (MapAt m es :: Hs) w) (k : α) (v : Value) {Q : World → Prop} (h : ∀ w', Sat R (MapAt m (putM k v es) :: Hs) w' → Q w') :
    ∃ w', (Instr.mapUpdate T (.map (some m)) (KeyK.enc k) v).run P w = .ok () w' ∧ Q w' := by
  obtain ⟨l, clk, rfl, hst, hp⟩ := MapAt.iff.1 hw
  refine ⟨_, update_run M.hT M.hK hp.at k v, h _ (MapAt.iff.2 ⟨putE k v l clk, _, putE_strip k v l clk, stamps_put hst k v, hp.setPts _⟩)⟩
theorem MapAt.del {t2 ty : TypeId} (M : MapT P T α K E z) (hw : Sat R (MapAt m es :: Hs) w) (k : α) {Q : World → Prop} (h : ∀ w', Sat R (MapAt m (delM k es) :: Hs) w' → Q w') :
    ∃ w', (Builtin.delete_ #[T, t2] ty #[.map (some m), KeyK.enc k]).run P w = .ok (.tuple #[]) w' ∧ Q w' := by
  obtain ⟨l, clk, rfl, hst, hp⟩ := MapAt.iff.1 hw
  exact ⟨_, delete_run M.hT M.hK hp.at k, h _ (MapAt.iff.2 ⟨delE k l, _, delE_strip k l, stamps_del hst k, hp.setPts _⟩)⟩
theorem MapAt.new {o : Obj} (ho : o = .map #[] 0) (hw : Sat R (pts m o :: Hs) w) : Sat R (MapAt (α := α) m [] :: Hs) w := by
  subst ho
  exact MapAt.iff.2 ⟨[], 0, rfl, ⟨fun _ h => (by cases h), List.nodup_nil⟩, hw⟩
section
variable {β : Type}
omit [KeyK α] in
theorem getM_app {k : α} {v : β} : ∀ {a b : List (α × β)}, getM k a = none → (k == k) = true → getM k (a ++ (k, v) :: b) = some v
  | [], b, _, hk => by simp [getM, hk]
  | e :: a, b, h, hk => by
    rw [getM] at h
    split at h
    · cases h
    · rename_i hne
      rw [List.cons_append, getM, if_neg hne]
      exact getM_app h hk
omit [KeyK α] in
theorem setM_app {k : α} {v v' : β} : ∀ {a b : List (α × β)}, getM k a = none → (k == k) = true → setM k v' (a ++ (k, v) :: b) = a ++ (k, v') :: b
  | [], b, _, hk => by simp [setM, hk]
  | e :: a, b, h, hk => by
    rw [getM] at h
    split at h
    · cases h
    · rename_i hne
      rw [List.cons_append, setM, if_neg hne, setM_app h hk]; rfl
omit [KeyK α] in
theorem delM_app {k : α} {v : β} : ∀ {a b : List (α × β)}, getM k a = none → (k == k) = true → delM k (a ++ (k, v) :: b) = a ++ b
  | [], b, _, hk => by simp [delM, hk]
  | e :: a, b, h, hk => by
    rw [getM] at h
    split at h
    · cases h
    · rename_i hne
      rw [List.cons_append, delM, if_neg hne, delM_app h hk]; rfl
end
end Go.VC
/- SL, part 8: slices of any one-cell elements; bytes and strings. No condition. -/
namespace Go.VC
set_option linter.unusedVariables false
variable {P : Program} {R : Cx} {Hs : List HP} {w : World} {s : Sl} {T : TypeId}
theorem Ro.idxK {kd : IntKind} {xs : List Int} {S : World → Prop} (hr : Ro R s (xs.map (Value.int kd))) (hS : ∀ w, S w → Sat R Hs w) {k : Nat} (hk : k < xs.length) {F : Int → Prop} (h : F xs[k]) :
    Rng (k : Int) s.len (NilP s.a fun a => ∃ t : Int, (At S (a.add (k : Int).toNat) [.int kd t]) ∧ F t) := by
  obtain ⟨a, ha, hat⟩ := hr.addr (k := k) (by simpa using hk)
  have hl : s.len = xs.length := by have := hr.len; simpa using this
  refine Rng.mk (by omega) (by omega) (NilP.mk ha ⟨xs[k], ?_, h⟩)
  have := hat hS
  simpa using this
theorem srcRo {t2 e' : TypeId} (ht : P.underlying t2 = some (.slice e')) {xs : List Value} (hw : Sat R Hs w) (hs : Ro R s xs) (h1 : oneAll xs = true) : Src P 1 t2 (.slice s.a s.len s.cap) xs.length xs w := by
  have hl : s.len = xs.length := hs.len
  by_cases hx : xs = []
  · subst hx
    obtain ⟨a, n, c⟩ := s
    simp only [List.length_nil] at hl
    subst hl
    cases a with
    | none => exact Go.Src.ofNil _ ht _
    | some a => exact Go.Src.ofSlice w ht _ 0 _ [] rfl (fun j u hj => by simp at hj) (fun u hu => by cases hu)
  · obtain ⟨b, off, l, T, fr, ha, hb, hel⟩ := hs.mem hx
    obtain ⟨a, n, c⟩ := s
    simp only at ha hl
    subst ha hl
    refine Go.Src.ofSlice w ht _ _ _ _ (by simp) (fun j u hj => ?_) (fun u hu => List.all_eq_true.1 h1 u hu)
    rw [add_off]
    have := hw.of_ro hb
    simp only [World.cell?, this, Option.isSome_none, Bool.false_eq_true, if_false]
    exact hel j u hj
end Go.VC
/- SL, part 9: what a call of the library leaves that changes no block that lay before: a new row of cells. No condition. -/
namespace Go.VC
set_option linter.unusedVariables false
open Go Go.RowKit
structure Keeps (w w' : World) : Prop where
  os : w'.os = w.os
  tape : w'.tape = w.tape
  output : w'.output = w.output
  block : ∀ k, k < w.heap.size → w'.heap[k]? = w.heap[k]?
end Go.VC
/- SL, part 10: slices whose elements are structs of n cells: one's own, or only read; elements, stores, append. No condition but bounds on lengths. -/
namespace Go.VC
set_option linter.unusedVariables false
open Go Go.RowKit
variable {P : Program} {R : Cx} {Hs Rest : List HP} {w : World} {s : Sl} {T : TypeId} {n : Nat}
def Wid (n : Nat) (rows : List (List Value)) : Prop := ∀ x ∈ rows, x.length = n
theorem Wid.nil {n : Nat} : Wid n [] := fun _ h => by cases h
theorem Wid.app {n : Nat} {a b : List (List Value)} (ha : Wid n a) (hb : Wid n b) : Wid n (a ++ b) := fun x hx => (List.mem_append.1 hx).elim (ha x) (hb x)
theorem Wid.one {n : Nat} {x : List Value} (h : x.length = n) : Wid n [x] := fun y hy => by simp at hy; rw [hy]; exact h
theorem Wid.len {n : Nat} : ∀ {rows : List (List Value)}, Wid n rows → rows.flatten.length = rows.length * n
  | [], _ => by simp
  | x :: rows, h => by
    rw [List.flatten_cons, List.length_append, h x List.mem_cons_self, Wid.len (rows := rows) (fun y hy => h y (List.mem_cons_of_mem _ hy)), List.length_cons, Nat.add_mul]
    omega
theorem Wid.drop_flat {n : Nat} : ∀ {rows : List (List Value)} (k : Nat), Wid n rows → rows.flatten.drop (k * n) = (rows.drop k).flatten
  | rows, 0, _ => by simp
  | [], k + 1, _ => by simp
  | x :: rows, k + 1, h => by
    have hx := h x List.mem_cons_self
    rw [List.flatten_cons, List.drop_succ_cons, ← Wid.drop_flat (rows := rows) k (fun y hy => h y (List.mem_cons_of_mem _ hy)), List.drop_append]
    have e1 : x.drop ((k + 1) * n) = [] := List.drop_eq_nil_of_le (by rw [hx, Nat.add_mul]; omega)
    have e2 : (k + 1) * n - x.length = k * n := by rw [hx, Nat.add_mul]; omega
    rw [e1, e2, List.nil_append]
theorem Wid.take_flat {n : Nat} {rows : List (List Value)} (k : Nat) (h : Wid n rows) : rows.flatten.take (k * n) = (rows.take k).flatten := by
  by_cases hk : k ≤ rows.length
  · have e : rows.flatten = (rows.take k).flatten ++ (rows.drop k).flatten := by rw [← List.flatten_append, List.take_append_drop]
    rw [e, List.take_left']
    rw [Wid.len (fun x hx => h x (List.mem_of_mem_take hx)), List.length_take, Nat.min_eq_left hk]
  · rw [List.take_of_length_le (by rw [h.len]; exact Nat.mul_le_mul_right _ (by omega)), List.take_of_length_le (by omega)]
theorem Wid.take {n k : Nat} {rows : List (List Value)} (h : Wid n rows) : Wid n (rows.take k) := fun x hx => h x (List.mem_of_mem_take hx)
theorem Wid.drop {n k : Nat} {rows : List (List Value)} (h : Wid n rows) : Wid n (rows.drop k) := fun x hx => h x (List.mem_of_mem_drop hx)
theorem Wid.set {n k : Nat} {rows : List (List Value)} {x : List Value} (h : Wid n rows) (hx : x.length = n) : Wid n (rows.set k x) := fun y hy => by
  rcases List.mem_or_eq_of_mem_set hy with hy | rfl
  · exact h y hy
  · exact hx
theorem Pre.app : ∀ {vs a : List Value} (b : List Value), Pre vs a → Pre vs (a ++ b)
  | [], _, _, _ => trivial
  | _ :: _, _ :: _, b, h => ⟨h.1, Pre.app b h.2⟩
  | _ :: _, [], _, h => h.elim
theorem Pre.len : ∀ {vs a : List Value}, Pre vs a → vs.length ≤ a.length
  | [], _, _ => Nat.zero_le _
  | _ :: _, _ :: _, h => by simp only [List.length_cons]; exact Nat.succ_le_succ (Pre.len h.2)
  | _ :: _, [], h => h.elim
theorem Wid.pre {n k j : Nat} {rows : List (List Value)} (rest : List Value) (h : Wid n rows) (hk : k < rows.length) {vs : List Value} (hp : Pre vs (rows[k].drop j)) : Pre vs ((rows.flatten ++ rest).drop (k * n + j)) := by
  cases vs with
  | nil => trivial
  | cons v vs =>
    have hj : j < rows[k].length := by
      have := Pre.len hp; simp only [List.length_cons, List.length_drop] at this; omega
    have hx : rows[k].length = n := h _ (List.getElem_mem _)
    have hle : k * n + j ≤ rows.flatten.length := by
      rw [h.len]
      have : (k + 1) * n ≤ rows.length * n := Nat.mul_le_mul_right _ (by omega)
      rw [Nat.add_mul] at this
      omega
    rw [List.drop_append_of_le_length hle, Nat.add_comm (k * n) j, ← List.drop_drop]
    rw [Nat.add_comm] at hle
    rw [List.drop_drop, Nat.add_comm j, ← List.drop_drop, h.drop_flat, List.drop_eq_getElem_cons hk, List.flatten_cons, List.drop_append_of_le_length (by omega), List.append_assoc]
    exact hp.app _
theorem set_flat {n : Nat} : ∀ {rows : List (List Value)} {k j : Nat} (v : Value), Wid n rows → (hk : k < rows.length) → j < n → rows.flatten.set (k * n + j) v = (rows.set k (rows[k].set j v)).flatten
  | [], k, j, v, _, hk, _ => by simp at hk
  | x :: rows, 0, j, v, h, _, hj => by
    have hx := h x List.mem_cons_self
    simp only [Nat.zero_mul, Nat.zero_add, List.flatten_cons, List.getElem_cons_zero, List.set_cons_zero]
    rw [List.set_append_left _ _ (by omega)]
  | x :: rows, k + 1, j, v, h, hk, hj => by
    have hx := h x List.mem_cons_self
    have hk' : k < rows.length := by simpa using hk
    simp only [List.flatten_cons, List.getElem_cons_succ, List.set_cons_succ]
    rw [List.set_append_right _ _ (by rw [hx, Nat.add_mul]; omega)]
    have e : (k + 1) * n + j - x.length = k * n + j := by rw [hx, Nat.add_mul]; omega
    rw [e, set_flat v (fun y hy => h y (List.mem_cons_of_mem _ hy)) hk' hj]
theorem putL_flat {n : Nat} {rest : List Value} : ∀ (vs : List Value) {rows : List (List Value)} {k j : Nat}, Wid n rows → (hk : k < rows.length) → j + vs.length ≤ n →
    putL (rows.flatten ++ rest) (k * n + j) vs = (rows.set k (putL rows[k] j vs)).flatten ++ rest
  | [], rows, k, j, _, hk, _ => by simp [putL]
  | v :: vs, rows, k, j, h, hk, hj => by
    simp only [List.length_cons] at hj
    have hb : k * n + j < rows.flatten.length := by
      rw [h.len]
      have : (k + 1) * n ≤ rows.length * n := Nat.mul_le_mul_right _ (by omega)
      rw [Nat.add_mul] at this
      omega
    rw [putL, List.set_append_left _ _ hb, set_flat v h hk (by omega), Nat.add_assoc, putL_flat vs (h.set (by rw [List.length_set]; exact h _ (List.getElem_mem _))) (by simpa using hk) (by omega)]
    simp [putL]
def OwnN (n : Nat) (s : Sl) (T : TypeId) (rows : List (List Value)) : HP := fun h =>
  Wid n rows ∧ ((s = ⟨none, 0, 0⟩ ∧ rows = [] ∧ h = Heap.none) ∨
    ∃ b rest fr cap, s = ⟨some ⟨b, 0, none⟩, rows.length, cap⟩ ∧ (rows.flatten ++ rest).length = cap * n ∧ okFr (cap * n) fr ∧ h = Heap.one b (.cells (rows.flatten ++ rest).toArray T fr))
theorem OwnN.nil (h : Sat R Hs w) : Sat R (OwnN n ⟨none, 0, 0⟩ T [] :: Hs) w :=
  ⟨Heap.none, ⟨Wid.nil, .inl ⟨rfl, rfl, rfl⟩⟩, fun i hi => absurd rfl hi, by rw [Cx.add_none]; exact h⟩
theorem OwnN.of_pts {b cap : Nat} {fr : Nat × Nat} {rows : List (List Value)} {rest : List Value} (hwid : Wid n rows) (hl : (rows.flatten ++ rest).length = cap * n) (h : Sat R (pts b (.cells (rows.flatten ++ rest).toArray T fr) :: Hs) w)
    (hf : okFr (cap * n) fr := by first | assumption | exact Or.inl rfl) : Sat R (OwnN n ⟨some ⟨b, 0, none⟩, rows.length, cap⟩ T rows :: Hs) w :=
  let ⟨a, ha, hd, hs⟩ := h; ⟨a, ⟨hwid, .inr ⟨b, rest, fr, cap, rfl, hl, hf, ha⟩⟩, hd, hs⟩
theorem OwnN.cases {rows : List (List Value)} (h : Sat R (OwnN n s T rows :: Hs) w) : Wid n rows ∧
    ((s = ⟨none, 0, 0⟩ ∧ rows = [] ∧ Sat R Hs w) ∨ ∃ b rest fr cap, s = ⟨some ⟨b, 0, none⟩, rows.length, cap⟩ ∧ (rows.flatten ++ rest).length = cap * n ∧ okFr (cap * n) fr ∧ Sat R (pts b (.cells (rows.flatten ++ rest).toArray T fr) :: Hs) w) := by
  obtain ⟨a, ⟨hwid, ha⟩, hd, hs⟩ := h
  refine ⟨hwid, ?_⟩
  rcases ha with ⟨h1, h2, rfl⟩ | ⟨b, rest, fr, cap, h1, h3, hf, rfl⟩
  · rw [Cx.add_none] at hs; exact .inl ⟨h1, h2, hs⟩
  · exact .inr ⟨b, rest, fr, cap, h1, h3, hf, _, rfl, hd, hs⟩
theorem OwnN.wid {rows : List (List Value)} (h : Sat R (OwnN n s T rows :: Hs) w) : Wid n rows := (OwnN.cases h).1
theorem OwnN.len {rows : List (List Value)} (h : Sat R (OwnN n s T rows :: Hs) w) : s.len = rows.length := by
  rcases (OwnN.cases h).2 with ⟨rfl, rfl, _⟩ | ⟨b, rest, fr, cap, rfl, _, _⟩ <;> rfl
theorem OwnN.cap {rows : List (List Value)} (hn : 0 < n) (h : Sat R (OwnN n s T rows :: Hs) w) : s.len ≤ s.cap := by
  have hwid := (OwnN.cases h).1
  rcases (OwnN.cases h).2 with ⟨rfl, rfl, _⟩ | ⟨b, rest, fr, cap, rfl, hl, _⟩
  · exact Nat.le_refl _
  · rw [List.length_append, hwid.len] at hl
    simp only
    have : rows.length * n ≤ cap * n := by omega
    exact Nat.le_of_mul_le_mul_right this hn
def ReadsN (n : Nat) (s : Sl) (rows : List (List Value)) (S : World → Prop) : Prop :=
  s.len = rows.length ∧ ∀ k (hk : k < rows.length), ∃ b off, s.a = some ⟨b, off, none⟩ ∧ ∀ j vs, Pre vs (rows[k].drop j) → At S ⟨b, off + (k * n + j), none⟩ vs
theorem OwnN.reads {rows : List (List Value)} (hw : Sat R (OwnN n s T rows :: Hs) w) {S : World → Prop} {Hs'} (hS : ∀ w, S w → Sat R (OwnN n s T rows :: Hs') w) : ReadsN n s rows S := by
  refine ⟨OwnN.len hw, fun k hk => ?_⟩
  obtain ⟨hwid, ⟨_, rfl, _⟩ | ⟨b, rest, fr, cap, rfl, hl, _, _⟩⟩ := OwnN.cases hw
  · simp at hk
  · refine ⟨b, 0, rfl, fun j vs hp w hw i v hv => ?_⟩
    obtain ⟨_, ⟨h0, _, _⟩ | ⟨b', rest', fr', cap', he, _, _, h⟩⟩ := OwnN.cases (hS w hw)
    · cases h0
    · simp only [Sl.mk.injEq, Option.some.injEq, Addr.mk.injEq, and_true] at he
      obtain ⟨rfl, _⟩ := he
      have := (Wid.pre rest' hwid hk hp).get i v hv
      rw [List.getElem?_drop] at this
      rw [add_off, Nat.zero_add, cell_of h.at, this]
theorem OwnN.store {rows : List (List Value)} {t : TypeId} {v : Value} {k j : Nat} {b off : Nat} {K : World → Prop} (hw : Sat R (OwnN n s T rows :: Hs) w) (ha : s.a = some ⟨b, off, none⟩) (hsz : (P.info? t).map (·.size) = some v.cells.toList.length) (h1 : oneAll v.cells.toList = true)
    (hk : k < rows.length) (hj : j + v.cells.toList.length ≤ n) (h : ∀ w', Sat R (OwnN n s T (rows.set k (putL rows[k] j v.cells.toList)) :: Hs) w' → K w') :
    ∃ w', (Instr.storeAt t (.pointer (some ⟨b, off + (k * n + j), none⟩)) v).run P w = .ok () w' ∧ K w' := by
  obtain ⟨hwid, ⟨rfl, _, _⟩ | ⟨b', rest, fr, cap, rfl, hl, hf, hp⟩⟩ := OwnN.cases hw
  · cases ha
  · simp only [Option.some.injEq, Addr.mk.injEq, and_true] at ha
    obtain ⟨rfl, rfl⟩ := ha
    have hlt : (k + 1) * n ≤ rows.length * n := Nat.mul_le_mul_right _ (by omega)
    rw [Nat.add_mul] at hlt
    have hll := hl
    rw [List.length_append, hwid.len] at hll
    rw [Nat.zero_add]
    refine store_rule hp hsz h1 (by rw [List.length_append, hwid.len]; omega) (fun w' h2 => h w' ?_) (by rw [hl]; exact hf)
    rw [putL_flat _ hwid hk hj] at h2
    have hl2 : (putL rows[k] j v.cells.toList).length = n := by rw [putL_len]; exact hwid _ (List.getElem_mem _)
    have := OwnN.of_pts (cap := cap) (hwid.set hl2) (by rw [← hl, List.length_append, List.length_append, (hwid.set hl2).len, List.length_set, hwid.len]) h2
    rw [List.length_set] at this
    exact this
structure RoN (n : Nat) (R : Cx) (s : Sl) (rows : List (List Value)) : Prop where
  wid : Wid n rows
  len : s.len = rows.length
  mem : rows ≠ [] → ∃ b off l T fr, s.a = some ⟨b, off, none⟩ ∧ R.m b = some (.cells l T fr) ∧ ∀ (i : Nat) v, rows.flatten[i]? = some v → l[off + i]? = some v
theorem RoN.add {h : Heap} {rows : List (List Value)} (hr : RoN n R s rows) : RoN n (R.add h) s rows :=
  ⟨hr.wid, hr.len, fun hx => let ⟨b, off, l, T, fr, ha, hb, hl⟩ := hr.mem hx; ⟨b, off, l, T, fr, ha, Cx.kept hb, hl⟩⟩
theorem RoN.reads {rows : List (List Value)} (hr : RoN n R s rows) {S : World → Prop} {Hs'} (hS : ∀ w, S w → Sat R Hs' w) : ReadsN n s rows S := by
  refine ⟨hr.len, fun k hk => ?_⟩
  obtain ⟨b, off, l, T, fr, ha, hb, hl⟩ := hr.mem (fun h => by rw [h] at hk; simp at hk)
  refine ⟨b, off, ha, fun j vs hp w hw i v hv => ?_⟩
  have h1 := (Wid.pre [] hr.wid hk hp).get i v hv
  rw [List.append_nil, List.getElem?_drop] at h1
  have := (hS w hw).of_ro hb
  rw [add_off]
  simp only [World.cell?, this, Option.isSome_none, Bool.false_eq_true, if_false]
  rw [Nat.add_assoc]
  exact hl _ _ h1
theorem OwnN.lend {rows : List (List Value)} (h : Sat R (OwnN n s T rows :: Hs) w) :
    ∃ R' : Cx, RoN n R' s rows ∧ (∃ x, R' = R.add x) ∧ Sat R' Hs w ∧ ∀ {Hs' w'}, Sat R' Hs' w' → Sat R (OwnN n s T rows :: Hs') w' := by
  obtain ⟨hwid, ⟨rfl, rfl, h2⟩ | ⟨b, rest, fr, cap, rfl, hl, hf, h2⟩⟩ := OwnN.cases h
  · exact ⟨R, ⟨hwid, rfl, fun h => absurd rfl h⟩, ⟨Heap.none, (Cx.add_none R).symm⟩, h2, fun h => OwnN.nil h⟩
  · obtain ⟨hn, h3⟩ := Sat.lend.1 h2
    refine ⟨_, ⟨hwid, rfl, fun _ => ⟨b, 0, _, T, fr, rfl, Cx.lent hn, fun i v hv => ?_⟩⟩, ⟨_, rfl⟩, h3, fun h => OwnN.of_pts hwid hl (Sat.lend.2 ⟨hn, h⟩)⟩
    obtain ⟨hi, rfl⟩ := List.getElem?_eq_some_iff.1 hv
    simp [List.getElem?_append_left hi]
theorem RoN.sub {rows : List (List Value)} (hr : RoN n R s rows) {l h m : Nat} (hlh : l ≤ h) (hh : h ≤ rows.length) (hm : m = l → h = l) : RoN n R ⟨cutA s.a l m n, h - l, m - l⟩ ((rows.take h).drop l) := by
  have hwid : Wid n ((rows.take h).drop l) := hr.wid.take.drop
  refine ⟨hwid, by simp; omega, fun hne => ?_⟩
  have hlt : l < h := by
    have : 0 < ((rows.take h).drop l).length := List.length_pos_iff.2 hne
    simp at this; omega
  obtain ⟨b, off, ls, T, fr, ha, hb, hl⟩ := hr.mem (fun h0 => by rw [h0] at hh; simp at hh; omega)
  refine ⟨b, off + l * n, ls, T, fr, ?_, hb, fun i v hv => ?_⟩
  · unfold cutA
    rw [if_neg (fun e => by have := hm e; omega), ha]
    simp [add_off]
  · rw [Nat.add_assoc]
    refine hl _ _ ?_
    have e1 : ((rows.take h).drop l).flatten = (rows.flatten.take (h * n)).drop (l * n) := by
      rw [hr.wid.take_flat, hr.wid.take.drop_flat]
    rw [e1, List.getElem?_drop] at hv
    rw [List.getElem?_take] at hv
    split at hv
    · exact hv
    · cases hv
theorem RoN.take {rows : List (List Value)} (hr : RoN n R s rows) {h : Nat} (hh : h ≤ rows.length) (c : Nat) : RoN n R ⟨s.a, h, c⟩ (rows.take h) :=
  ⟨hr.wid.take, by simp; omega, fun hne => by
    obtain ⟨b, off, ls, T, fr, ha, hb, hl⟩ := hr.mem (fun h0 => hne (by rw [h0]; simp))
    refine ⟨b, off, ls, T, fr, ha, hb, fun i v hv => hl _ _ ?_⟩
    rw [← hr.wid.take_flat, List.getElem?_take] at hv
    split at hv
    · exact hv
    · cases hv⟩
def elBN (P : Program) (T : TypeId) (n bytes : Nat) : Bool :=
  match P.info? T with
  | some i => match i.zero with
    | some z => i.size == n && i.bytes == bytes && z.cells.size == n
    | none => false
  | none => false
structure ElN (P : Program) (t1 t2 T : TypeId) (n bytes : Nat) : Prop where
  ht : P.underlying t1 = some (.slice T)
  hk : ∃ e', P.underlying t2 = some (.slice e')
  hi : elBN P T n bytes = true
structure Elt (n : Nat) (S : World → Prop) (a : Addr) (k : Nat) (row : List Value) : Prop where
  f : ∀ (j : Nat) {vs : List Value}, Pre vs (row.drop j) → At S ⟨(Addr.add a (mulS (k : Int).toNat n)).block, (Addr.add a (mulS (k : Int).toNat n)).off + j, none⟩ vs
  z : ∀ {vs : List Value}, Pre vs row → At S (Addr.add a (mulS (k : Int).toNat n)) vs
  zz : ∀ {vs : List Value}, Pre vs row → At S (Addr.add (Addr.add a (mulS (k : Int).toNat n)) 0) vs
class Arr (Hs Hs' : List HP) : Prop where
  perm : Hs.Perm Hs'
instance (priority := 2000) Arr.refl {Hs : List HP} : Arr Hs Hs := ⟨List.Perm.refl _⟩
instance Arr.cons {A : HP} {Hs Rest Hs' : List HP} [t : Take A Hs Rest] [r : Arr Rest Hs'] : Arr Hs (A :: Hs') := ⟨t.perm.trans (r.perm.cons A)⟩
theorem Sat.arr {Hs' : List HP} (h : Sat R Hs w) [a : Arr Hs Hs'] : Sat R Hs' w := h.perm a.perm
theorem Br.d {p : Prop} {inst : Decidable p} {A B : Prop} (h : p → A) (h' : ¬ p → B) : Br (@decide p inst) A B := Br.mk (fun e => h (of_decide_eq_true e)) (fun e => h' (of_decide_eq_false e))
theorem Br.nd {p : Prop} {inst : Decidable p} {A B : Prop} (h : ¬ p → A) (h' : p → B) : Br (!@decide p inst) A B := Br.mk (fun e => h (by simpa using e)) (fun e => h' (by simpa using e))
theorem Br.e {x y : Int} {A B : Prop} (h : x = y → A) (h' : ¬ x = y → B) : Br (x == y) A B := Br.mk (fun e => h (by simpa using e)) (fun e => h' (by simpa using e))
theorem Br.ne {x y : Int} {A B : Prop} (h : ¬ x = y → A) (h' : x = y → B) : Br (x != y) A B := Br.mk (fun e => h (by simpa using e)) (fun e => h' (by simpa using e))
theorem Br.nb {b : Bool} {A B : Prop} (h : b = false → A) (h' : b = true → B) : Br (!b) A B := Br.mk (fun e => h (by simpa using e)) (fun e => h' (by simpa using e))
end Go.VC
/- Integers of other kinds: wrapping, bits, shifts, as the formulas ask for them. No condition but ranges. -/
namespace Go.VC
set_option linter.unusedVariables false
theorem wrapU8 {x : Int} (h0 : 0 ≤ x) (h1 : x < 256) : IntKind.u8.wrap x = x := by rw [IntKind.wrap_u8']; omega
theorem wrapU8m (x : Int) : IntKind.u8.wrap x = x % 256 := IntKind.wrap_u8' x
theorem wrapU64 {x : Int} (h0 : 0 ≤ x) (h1 : x < 18446744073709551616) : IntKind.u64.wrap x = x := by rw [IntKind.wrap_u64]; omega
theorem bv_toNat (n x : Nat) (h : x < 2 ^ n) : (BitVec.ofInt n (x : Int)).toNat = x := by
  rw [BitVec.toNat_ofInt]
  have : ((x : Int) % (2 ^ n : Nat)) = x := Int.emod_eq_of_lt (by omega) (by exact_mod_cast h)
  rw [this]; rfl
theorem orU64 {x y : Nat} (hx : x < 18446744073709551616) (hy : y < 18446744073709551616) : bitI .or .u64 x y = ((x ||| y : Nat) : Int) := by
  have e : (BitVec.ofInt 64 (x : Int) ||| BitVec.ofInt 64 (y : Int)).toNat = x ||| y := by rw [BitVec.toNat_or, bv_toNat 64 x hx, bv_toNat 64 y hy]
  show IntKind.u64.wrap (((BitVec.ofInt 64 (x : Int) ||| BitVec.ofInt 64 (y : Int)).toNat : Nat) : Int) = _
  rw [e]
  have : x ||| y < 18446744073709551616 := Nat.or_lt_two_pow (n := 64) hx hy
  exact wrapU64 (by omega) (by omega)
theorem or_byte (x y : Nat) (hy : y < 256) : x * 256 ||| y = x * 256 + y := by
  have := Nat.two_pow_add_eq_or_of_lt (i := 8) (b := y) (by omega) x
  rw [Nat.mul_comm] at this
  exact this.symm
end Go.VC
/- SL, part 11: slices that are only read, as memory of one's own: lent, cut, given back. No condition. -/
namespace Go.VC
set_option linter.unusedVariables false
variable {P : Program} {R : Cx} {Hs Rest : List HP} {w : World} {s : Sl}
structure SlR (h : Heap) (s : Sl) (xs : List Value) : Prop where
  len : s.len = xs.length
  cap : s.len ≤ s.cap
  mem : xs ≠ [] → ∃ b off l T fr, s.a = some ⟨b, off, none⟩ ∧ h b = some (.cells l T fr) ∧ ∀ (i : Nat) v, xs[i]? = some v → l[off + i]? = some v
def Reads (s : Sl) (xs : List Value) : HP := fun h => SlR h s xs
theorem SlR.add {h h' : Heap} {xs : List Value} (a : SlR h s xs) : SlR (h.add h') s xs :=
  ⟨a.len, a.cap, fun hx => let ⟨b, off, l, T, fr, ha, hb, hl⟩ := a.mem hx; ⟨b, off, l, T, fr, ha, by simp only [Heap.add, hb], hl⟩⟩
theorem SlR.addR {h h' : Heap} {xs : List Value} (hd : h'.dis h) (a : SlR h s xs) : SlR (h'.add h) s xs :=
  ⟨a.len, a.cap, fun hx => let ⟨b, off, l, T, fr, ha, hb, hl⟩ := a.mem hx; ⟨b, off, l, T, fr, ha, by
    simp only [Heap.add, hd b (by rw [hb]; simp)]; exact hb, hl⟩⟩
theorem SlR.ro {xs : List Value} (a : SlR R.m s xs) (hb : xs.length ≤ 9223372036854775807) : Ro R s xs :=
  ⟨a.len, hb, a.mem⟩
theorem SlR.take {h : Heap} {xs : List Value} (a : SlR h s xs) {k : Nat} (hk : k ≤ xs.length) : SlR h ⟨s.a, k, s.cap⟩ (xs.take k) :=
  ⟨by simp; omega, by have := a.len; have := a.cap; simp only; omega, fun hx => by
    obtain ⟨b, off, l, T, fr, ha, hb, hl⟩ := a.mem (fun h0 => hx (by rw [h0]; simp))
    refine ⟨b, off, l, T, fr, ha, hb, fun i v hv => hl i v ?_⟩
    rw [List.getElem?_take] at hv
    split at hv
    · exact hv
    · cases hv⟩
theorem SlR.drop {h : Heap} {xs : List Value} (a : SlR h s xs) {k : Nat} (hk : k ≤ xs.length) : SlR h ⟨cutA s.a k s.cap 1, s.len - k, s.cap - k⟩ (xs.drop k) := by
  have hlen := a.len
  have hcap := a.cap
  refine ⟨by simp; omega, by simp only; omega, fun hx => ?_⟩
  obtain ⟨b, off, l, T, fr, ha, hb, hl⟩ := a.mem (fun h0 => hx (by rw [h0]; simp))
  have hlt : 0 < (xs.drop k).length := List.length_pos_iff.2 hx
  rw [List.length_drop] at hlt
  refine ⟨b, off + k, l, T, fr, ?_, hb, fun i v hv => ?_⟩
  · unfold cutA
    rw [if_neg (by omega), ha]
    simp [add_off]
  · rw [List.getElem?_drop] at hv
    rw [Nat.add_assoc]
    exact hl _ _ hv
theorem Reads.lend {xs : List Value} (h : Sat R (Reads s xs :: Hs) w) : ∃ x : Heap, R.dis x ∧ SlR (R.add x).m s xs ∧ Sat (R.add x) Hs w ∧ SlR x s xs := by
  obtain ⟨x, hx, hd, hs⟩ := h
  exact ⟨x, hd, SlR.addR hd hx, hs, hx⟩
theorem Reads.back {xs : List Value} {x : Heap} (hd : R.dis x) (hx : SlR x s xs) (h : Sat (R.add x) Hs w) : Sat R (Reads s xs :: Hs) w := ⟨x, hx, hd, h⟩
theorem Own.reads {T : TypeId} {xs : List Value} (h : Sat R (Own s T xs :: Hs) w) : Sat R (Reads s xs :: Hs) w := by
  rcases Own.cases h with ⟨rfl, rfl, h2⟩ | ⟨b, rest, fr, rfl, hf, h2⟩
  · exact ⟨Heap.none, ⟨rfl, Nat.le_refl _, fun h => absurd rfl h⟩, fun i hi => absurd rfl hi, by rw [Cx.add_none]; exact h2⟩
  · obtain ⟨a, ha, hd, hs⟩ := h2
    refine ⟨a, ⟨rfl, by simp, fun _ => ⟨b, 0, (xs ++ rest).toArray, T, fr, rfl, by rw [ha]; simp [Heap.one], fun i v hv => ?_⟩⟩, hd, hs⟩
    obtain ⟨hi, rfl⟩ := List.getElem?_eq_some_iff.1 hv
    simp [List.getElem?_append_left hi]
theorem SlR.idxK {kd : IntKind} {xs : List Int} {S : World → Prop} (hr : SlR R.m s (xs.map (Value.int kd))) (hS : ∀ w, S w → Sat R Hs w) {k : Nat} (hk : k < xs.length) {F : Int → Prop} (h : F xs[k]) :
    Rng (k : Int) s.len (NilP s.a fun a => ∃ t : Int, (At S (a.add (k : Int).toNat) [.int kd t]) ∧ F t) := by
  have hl : s.len = xs.length := by have := hr.len; simpa using this
  obtain ⟨b, off, l, T, fr, ha, hb, hel⟩ := hr.mem (by intro h0; rw [List.map_eq_nil_iff] at h0; rw [h0] at hk; simp at hk)
  refine Rng.mk (by omega) (by omega) (NilP.mk ha ⟨xs[k], fun w hw i v hv => ?_, h⟩)
  have hi : i = 0 := by
    cases i with
    | zero => rfl
    | succ i => simp at hv
  subst hi
  simp only [List.getElem?_cons_zero, Option.some.injEq] at hv
  subst hv
  rw [Int.toNat_natCast, add_off, add_off]
  have := (hS w hw).of_ro hb
  simp only [World.cell?, this, Option.isSome_none, Bool.false_eq_true, if_false]
  exact hel k _ (by simp [hk])
end Go.VC
/- Slices of bytes: Clone. No condition. -/
namespace Go.Proofs.YtadnmnkbgjippaaGreatDoor
set_option linter.unusedVariables false
open Go Go.VC
variable {R : Cx} {Hs Rest : List HP} {w : World}
theorem _root_.Go.VC.Sat.re {A : HP} (B : HP) (h : Sat R (A :: Hs) w) (e : A = B := by rfl) : Sat R (B :: Hs) w := e ▸ h
abbrev b8 (l : List Int) : List Value := l.map (Value.int .u8)
theorem elB8 : El Tryz.prog 22 22 5 1 := ⟨Tryz.underlying22, ⟨_, Tryz.underlying22⟩, by kernel_rfl⟩
theorem one_b8 (xs : List Int) : oneAll (b8 xs) = true := by unfold oneAll; simp [Value.oneCell']
theorem clone_spec {s : Sl} {xs : List Int} (hs : Ro R s (b8 xs)) (hl : xs.length ≤ 1099511627776) (hw : Sat R Hs w) :
    Gets Tryz.prog 38 #[.slice s.a s.len s.cap] w fun r w' => ∃ t : Sl, r = .slice t.a t.len t.cap ∧ Sat R (Own t 5 (b8 xs) :: Hs) w' := by
  apply call38
  refine Br.mk (fun h => ?_) (fun h => ?_)
  · have hx : xs = [] := by
      by_cases hx : b8 xs = []
      · simpa using hx
      · obtain ⟨b, off, _, _, _, ha, _⟩ := hs.mem hx
        rw [ha] at h; cases h
    subst hx
    exact ⟨⟨none, 0, 0⟩, rfl, Own.nil hw⟩
  · refine new_rule hw fun b w hw => ?_
    have h0 : Sat R (Own ⟨some ⟨b, 0, none⟩, 0, 0⟩ 5 [] :: Hs) w := Own.of_pts (xs := []) (rest := []) hw
    have hsrc : Src Tryz.prog 1 22 (.slice s.a s.len s.cap) xs.length (b8 xs) w := by
      have := srcRo Tryz.underlying22 h0 hs (one_b8 xs)
      simpa using this
    have := append_rule (ty := 22) (K := fun t w' => ∃ u : Sl, Value.slice t.a t.len t.cap = .slice u.a u.len u.cap ∧ Sat R (Own u 5 (b8 xs) :: Hs) w') elB8 h0 hsrc rfl (by simp; omega) (by simp; omega) fun t w hw => ⟨t, rfl, by simpa using hw⟩
    exact this
end Go.Proofs.YtadnmnkbgjippaaGreatDoor
/- Codes of numbers and of bytes, plain. No program. No condition. -/
namespace Go.VC
set_option linter.unusedVariables false
def dig (n : Nat) : List Int := if h : n = 0 then [] else dig (n / 256) ++ [((n % 256 : Nat) : Int)]
termination_by n
decreasing_by omega
theorem dig_zero : dig 0 = [] := by unfold dig; simp
theorem dig_pos {n : Nat} (h : n ≠ 0) : dig n = dig (n / 256) ++ [((n % 256 : Nat) : Int)] := by
  conv => lhs; unfold dig
  rw [dif_neg h]
def valI (acc : Int) (l : List Int) : Int := l.foldl (fun a b => a * 256 + b) acc
theorem valI_cons (acc b : Int) (l : List Int) : valI acc (b :: l) = valI (acc * 256 + b) l := rfl
theorem valI_app (acc : Int) (a b : List Int) : valI acc (a ++ b) = valI (valI acc a) b := List.foldl_append
theorem valI_snoc (acc : Int) (a : List Int) (b : Int) : valI acc (a ++ [b]) = valI acc a * 256 + b := by rw [valI_app]; rfl
theorem valI_nn : ∀ {l : List Int} {acc : Int}, 0 ≤ acc → (∀ x ∈ l, 0 ≤ x ∧ x < 256) → 0 ≤ valI acc l
  | [], _, h, _ => h
  | b :: l, acc, h, hb => by
    rw [valI_cons]
    have := hb b List.mem_cons_self
    exact valI_nn (by omega) fun x hx => hb x (List.mem_cons_of_mem _ hx)
theorem valI_lt : ∀ {l : List Int} {acc : Int}, 0 ≤ acc → (∀ x ∈ l, 0 ≤ x ∧ x < 256) → valI acc l < (acc + 1) * 256 ^ l.length
  | [], acc, h, _ => by simp [valI]; omega
  | b :: l, acc, h, hb => by
    rw [valI_cons]
    have h1 := hb b List.mem_cons_self
    have := valI_lt (l := l) (acc := acc * 256 + b) (by omega) fun x hx => hb x (List.mem_cons_of_mem _ hx)
    refine Int.lt_of_lt_of_le this ?_
    rw [List.length_cons, Int.pow_succ, Int.mul_comm (256 ^ l.length) 256, ← Int.mul_assoc]
    exact Int.mul_le_mul_of_nonneg_right (by omega) (Int.le_of_lt (Int.pow_pos (by decide)))
theorem dig_val (n : Nat) : valI 0 (dig n) = n := by
  induction n using Nat.strongRecOn with
  | ind n ih =>
    by_cases h : n = 0
    · subst h; rw [dig_zero]; rfl
    · rw [dig_pos h, valI_snoc, ih (n / 256) (by omega)]; omega
theorem dig_bd (n : Nat) : ∀ x ∈ dig n, 0 ≤ x ∧ x < 256 := by
  induction n using Nat.strongRecOn with
  | ind n ih =>
    by_cases h : n = 0
    · subst h; rw [dig_zero]; intro x hx; cases hx
    · rw [dig_pos h]
      intro x hx
      rcases List.mem_append.1 hx with hx | hx
      · exact ih (n / 256) (by omega) x hx
      · simp at hx; omega
theorem dig_head (n : Nat) : ∀ x l, dig n = x :: l → x ≠ 0 := by
  induction n using Nat.strongRecOn with
  | ind n ih =>
    intro x l hx
    by_cases h : n = 0
    · subst h; rw [dig_zero] at hx; cases hx
    · rw [dig_pos h] at hx
      by_cases h2 : n / 256 = 0
      · rw [h2, dig_zero] at hx
        simp at hx
        omega
      · cases hd : dig (n / 256) with
        | nil => rw [dig_pos h2] at hd; simp at hd
        | cons y l' =>
          rw [hd] at hx
          simp at hx
          obtain ⟨rfl, _⟩ := hx
          exact ih (n / 256) (by omega) _ _ hd
theorem dig_len_le : ∀ (k n : Nat), n < 256 ^ k → (dig n).length ≤ k
  | 0, n, h => by
    have : n = 0 := by simpa using h
    subst this; rw [dig_zero]; simp
  | k + 1, n, h => by
    by_cases h0 : n = 0
    · subst h0; rw [dig_zero]; simp
    · rw [dig_pos h0, List.length_append]
      have := dig_len_le k (n / 256) (by rw [Nat.pow_succ] at h; exact Nat.div_lt_of_lt_mul (by rwa [Nat.mul_comm] at h))
      simp; omega
theorem dig_len8 {n : Nat} (h : n < 18446744073709551616) : (dig n).length ≤ 8 := dig_len_le 8 n (by simpa using h)
theorem dig_width (n : Nat) (h : n < 18446744073709551616) : (Lib.bitLen n + 7) / 8 = (dig n).length := by
  induction n using Nat.strongRecOn with
  | ind n ih =>
    by_cases h0 : n = 0
    · subst h0; rw [dig_zero]; decide
    · rw [dig_pos h0, List.length_append]
      by_cases h1 : 256 ≤ n
      · rw [Lib.bitLen_shift8 n h1 h, ← ih (n / 256) (by omega) (by omega)]
        simp; omega
      · have e : n / 256 = 0 := by omega
        rw [e, dig_zero]
        have h2 : ∀ m : Fin 256, m.val ≠ 0 → (Lib.bitLen m.val + 7) / 8 = 1 := by decide +kernel
        simpa using h2 ⟨n, by omega⟩ h0
theorem dig_drop : ∀ (k n : Nat), k ≤ (dig n).length → (dig n).take ((dig n).length - k) = dig (n / 256 ^ k)
  | 0, n, _ => by simp
  | k + 1, n, h => by
    by_cases h0 : n = 0
    · subst h0; rw [dig_zero] at h; simp at h
    · rw [dig_pos h0] at h ⊢
      rw [List.length_append] at h ⊢
      simp only [List.length_cons, List.length_nil] at h ⊢
      have e : (dig (n / 256)).length + (0 + 1) - (k + 1) = (dig (n / 256)).length - k := by omega
      rw [e, List.take_append_of_le_length (by omega), dig_drop k (n / 256) (by omega), Nat.div_div_eq_div_mul, Nat.pow_succ, Nat.mul_comm 256]
theorem dig_get {n k : Nat} (h : k < (dig n).length) : (dig n)[(dig n).length - 1 - k]'(by omega) = ((n / 256 ^ k % 256 : Nat) : Int) := by
  have h1 := dig_drop k n (by omega)
  have hn : n / 256 ^ k ≠ 0 := by
    intro h0
    rw [h0, dig_zero] at h1
    have := congrArg List.length h1
    simp at this; omega
  rw [dig_pos hn] at h1
  have h2 : ((dig n).take ((dig n).length - k)).getLast? = some ((n / 256 ^ k % 256 : Nat) : Int) := by rw [h1]; simp
  rw [List.getLast?_eq_getElem?, List.length_take, Nat.min_eq_left (by omega), List.getElem?_take] at h2
  split at h2
  · rw [List.getElem?_eq_some_iff] at h2
    obtain ⟨h3, h4⟩ := h2
    have e : (dig n).length - 1 - k = (dig n).length - k - 1 := by omega
    simp only [e]
    exact h4
  · cases h2
def numB (n : Nat) : List Int := ((dig n).length : Int) :: dig n
def textB (b : List Int) : List Int := numB b.length ++ b
theorem numB_bd {n : Nat} (h : n < 18446744073709551616) : ∀ x ∈ numB n, 0 ≤ x ∧ x < 256 := by
  intro x hx
  rcases List.mem_cons.1 hx with rfl | hx
  · have := dig_len8 h; omega
  · exact dig_bd n x hx
theorem numB_len {n : Nat} (h : n < 18446744073709551616) : (numB n).length ≤ 9 := by
  have := dig_len8 h; unfold numB; simp; omega
def parse (l : List Int) : Option (Int × Bool × Nat) :=
  match l with
  | [] => none
  | k :: rest =>
    let neg := decide (16 ≤ k)
    let w := (if 16 ≤ k then k - 16 else k).toNat
    if k < 32 ∧ w ≤ 8 ∧ w ≤ rest.length ∧ (w = 0 → k = 0) ∧ (w ≠ 0 → rest.head? ≠ some 0) then some (valI 0 (rest.take w), neg, w + 1) else none
theorem parse_num {n : Nat} (h : n < 18446744073709551616) (rest : List Int) : parse (numB n ++ rest) = some ((n : Int), false, (numB n).length) := by
  have h8 := dig_len8 h
  unfold parse numB
  simp only [List.cons_append]
  have e1 : ¬ (16 : Int) ≤ ((dig n).length : Int) := by omega
  rw [if_neg e1]
  rw [if_pos]
  · simp only [Int.toNat_natCast, List.take_left', dig_val, List.length_cons, Option.some.injEq, Prod.mk.injEq, and_true, true_and]
    simpa using e1
  · refine ⟨by omega, by omega, by simp, fun h0 => by omega, fun h0 => ?_⟩
    simp only [Int.toNat_natCast] at h0
    cases hd : dig n with
    | nil => rw [hd] at h0; simp at h0
    | cons x l =>
      have := dig_head n x l hd
      simp; exact this
theorem parse_bd {l : List Int} {n : Int} {neg : Bool} {k : Nat} (hb : ∀ x ∈ l, 0 ≤ x ∧ x < 256) (h : parse l = some (n, neg, k)) : 0 ≤ n ∧ n < 18446744073709551616 ∧ 1 ≤ k ∧ k ≤ 9 ∧ k ≤ l.length := by
  unfold parse at h
  split at h
  · cases h
  · rename_i c rest
    simp only at h
    generalize hw : (if 16 ≤ c then c - 16 else c).toNat = w at h
    split at h
    · rename_i hc
      obtain ⟨_, h8, hr, _, _⟩ := hc
      simp only [Option.some.injEq, Prod.mk.injEq] at h
      obtain ⟨rfl, _, rfl⟩ := h
      have hb2 : ∀ x ∈ rest.take w, 0 ≤ x ∧ x < 256 := fun x hx => hb x (List.mem_cons_of_mem _ (List.mem_of_mem_take hx))
      refine ⟨valI_nn (Int.le_refl _) hb2, ?_, by omega, by omega, by simp; omega⟩
      refine Int.lt_of_lt_of_le (valI_lt (Int.le_refl _) hb2) ?_
      rw [List.length_take, Nat.min_eq_left hr, Int.zero_add, Int.one_mul]
      have h9 : 256 ^ w ≤ 256 ^ 8 := Nat.pow_le_pow_right (by omega) h8
      have : ((256 ^ w : Nat) : Int) ≤ ((256 ^ 8 : Nat) : Int) := Int.ofNat_le.2 h9
      rw [Int.natCast_pow] at this
      exact Int.le_trans this (by decide)
    · cases h
structure Rd where
  bs : List Int
  bad : Bool
def rdNum (most : Int) (r : Rd) : Int × Rd :=
  if r.bad then (0, r) else match parse r.bs with
  | some (n, neg, k) => if neg = false ∧ n ≤ most then (n, ⟨r.bs.drop k, false⟩) else (0, ⟨r.bs, true⟩)
  | none => (0, ⟨r.bs, true⟩)
def rdText (most : Int) (r : Rd) : List Int × Rd :=
  if r.bad then ([], r) else match parse r.bs with
  | some (n, neg, k) => if neg = false ∧ 0 ≤ most ∧ n ≤ most ∧ n ≤ ((r.bs.length : Int) - k) then (((r.bs.drop k).take n.toNat), ⟨r.bs.drop (k + n.toNat), false⟩) else ([], ⟨r.bs, true⟩)
  | none => ([], ⟨r.bs, true⟩)
def rdWhole (r : Rd) : Bool := !r.bad && decide (r.bs.length = 0)
end Go.VC
/- Package field: numbers and bytes as bytes. Condition: bounds on lengths. -/
namespace Go.Proofs.YtadnmnkbgjippaaGreatDoor
set_option linter.unusedVariables false
open Go Go.VC
variable {R : Cx} {Hs Rest : List HP} {w : World}
theorem _root_.Go.VC.SlR.mono {h h' : Heap} {s : Sl} {xs : List Value} (hs : ∀ b o, h b = some o → h' b = some o) (a : SlR h s xs) : SlR h' s xs :=
  ⟨a.len, a.cap, fun hx => let ⟨b, off, l, T, fr, ha, hb, hl⟩ := a.mem hx; ⟨b, off, l, T, fr, ha, hs _ _ hb, hl⟩⟩
abbrev amissP : List PanicEntry := [⟨.iface 115 (.agg #[]), false, false⟩]
theorem must_c {b : Bool} {Q : Ending → World → Prop} (h1 : b = true → Q (.returned (.tuple #[])) w) (h2 : b = false → Q (.panicked amissP) w) : Calls Tryz.prog 47 #[.bool b] w Q := by
  have h : GetsX Tryz.prog 47 #[.bool b] w (fun ch w' => b = false ∧ ch = amissP ∧ w' = w) (fun v w' => b = true ∧ v = .tuple #[] ∧ w' = w) := by
    apply call47
    refine Br.nb (fun h => ?_) (fun h => ?_)
    · exact ⟨h, rfl, rfl⟩
    · exact ⟨h, rfl, rfl⟩
  refine h.use ?_ ?_
  · rintro v w' ⟨hb, rfl, e⟩; rw [e]; exact h1 hb
  · rintro v w' ⟨hb, rfl, e⟩; rw [e]; exact h2 hb
abbrev lp (l : Nat) (s : Sl) : HP := pts l (.cells [.slice s.a s.len s.cap].toArray 22 (0, 0))
abbrev sdrop (s : Sl) (k : Nat) : Sl := ⟨cutA s.a k s.cap 1, s.len - k, s.cap - k⟩
theorem take_spec {l : Nat} {s : Sl} {xs : List Value} {k : Nat} (hr : SlR R.m s xs) (hw : Sat R (lp l s :: Hs) w) :
    GetsX Tryz.prog 48 #[.pointer (some ⟨l, 0, none⟩), .int .i64 k] w
      (fun ch w' => xs.length < k ∧ ch = amissP ∧ Sat R (lp l s :: Hs) w')
      (fun v w' => k ≤ xs.length ∧ v = .slice s.a k s.cap ∧ Sat R (lp l (sdrop s k) :: Hs) w') := by
  have hlen := hr.len
  have hcap := hr.cap
  apply call48
  refine NilP.mk rfl ⟨s, At.own (eqS hw) (by exact ⟨rfl, trivial⟩), must_c (fun h => .inl ⟨rfl, ?_⟩) (fun h => .inr ⟨_, rfl, ?_⟩)⟩
  · have h := of_decide_eq_true h
    refine NilP.mk rfl ⟨s, At.own (eqS hw) (by exact ⟨rfl, trivial⟩), by omega, by omega, NilP.mk rfl ⟨s, At.own (eqS hw) (by exact ⟨rfl, trivial⟩), by omega, by omega, NilP.mk rfl ?_⟩⟩
    rw [Int.toNat_natCast]
    refine store_rule hw (by kernel_rfl) rfl (by simp [Value.cells]) fun w hw => ?_
    exact ⟨by omega, rfl, hw⟩
  · have h := of_decide_eq_false h
    exact ⟨by omega, rfl, hw⟩
theorem andn32 : ∀ c : Fin 32, bitI .andNot .u8 ((c.1 : Nat) : Int) 16 = if 16 ≤ ((c.1 : Nat) : Int) then ((c.1 : Nat) : Int) - 16 else ((c.1 : Nat) : Int) := by decide +kernel
theorem andn {c : Int} (h0 : 0 ≤ c) (h1 : c < 32) : IntKind.i64.wrap (bitI .andNot .u8 c 16) = if 16 ≤ c then c - 16 else c := by
  obtain ⟨n, rfl⟩ := Int.eq_ofNat_of_zero_le h0
  have := andn32 ⟨n, by omega⟩
  simp only at this
  rw [this]
  split <;> exact wrap64 (by omega) (by omega)
theorem shl8_or {n t : Int} (h0 : 0 ≤ n) (h1 : n < 72057594037927936) (t0 : 0 ≤ t) (t1 : t < 256) : bitI .or .u64 (shlI .u64 n 8) (IntKind.u64.wrap t) = n * 256 + t := by
  have e : shlI .u64 n 8 = n * 256 := by
    show IntKind.u64.wrap (n * 2 ^ 8) = _
    rw [wrapU64 (by omega) (by omega)]; omega
  rw [e, wrapU64 t0 (by omega)]
  obtain ⟨a, rfl⟩ := Int.eq_ofNat_of_zero_le h0
  obtain ⟨b, rfl⟩ := Int.eq_ofNat_of_zero_le t0
  have := orU64 (x := a * 256) (y := b) (by omega) (by omega)
  rw [or_byte a b (by omega)] at this
  rw [show ((a * 256 : Nat) : Int) = (a : Int) * 256 from Int.natCast_mul a 256] at this
  rw [this]
  exact (Int.natCast_add (a * 256) b).trans (by rw [Int.natCast_mul]; rfl)
abbrev widN (c : Int) : Nat := (if 16 ≤ c then c - 16 else c).toNat
theorem fsize_spec {h : Heap} {l : Nat} {s : Sl} {bs : List Int} (hb : ∀ x ∈ bs, 0 ≤ x ∧ x < 256) (hsub : ∀ b o, h b = some o → R.m b = some o) (hr0 : SlR h s (b8 bs)) (hw : Sat R (lp l s :: Hs) w) :
    GetsX Tryz.prog 46 #[.pointer (some ⟨l, 0, none⟩)] w
      (fun ch w' => parse bs = none ∧ ch = amissP ∧ ∃ s', Sat R (lp l s' :: Hs) w')
      (fun v w' => ∃ n neg k s', parse bs = some (n, neg, k) ∧ v = .tuple #[.int .u64 n, .bool neg] ∧ SlR h s' (b8 (bs.drop k)) ∧ Sat R (lp l s' :: Hs) w') := by
  have hr : SlR R.m s (b8 bs) := hr0.mono hsub
  apply call46
  refine (take_spec (k := 1) hr hw).use ?_ ?_
  rotate_left
  · rintro _ w ⟨h, rfl, hw⟩
    refine .inr ⟨_, rfl, ?_, rfl, s, hw⟩
    cases bs with
    | nil => rfl
    | cons => simp at h
  rintro _ w ⟨hlen, rfl, hw⟩
  cases bs with
  | nil => simp at hlen
  | cons c rest =>
  have hc := hb c List.mem_cons_self
  have hbr : ∀ x ∈ rest, 0 ≤ x ∧ x < 256 := fun x hx => hb x (List.mem_cons_of_mem _ hx)
  refine .inl ⟨⟨s.a, 1, s.cap⟩, rfl, ?_⟩
  have hr1 : SlR R.m ⟨s.a, 1, s.cap⟩ (b8 [c]) := hr.take (k := 1) hlen
  have hrd : SlR R.m (sdrop s 1) (b8 rest) := hr.drop (k := 1) hlen
  have := SlR.idxK (Hs := lp l (sdrop s 1) :: Hs) (S := fun w' => w' = w) hr1 (eqS hw) (k := 0) (by simp) (F := fun t => t = c) rfl
  obtain ⟨h0, h1, this⟩ := this.out
  obtain ⟨a, ha, t, hat, rfl⟩ := this.out
  refine Rng.mk h0 h1 (NilP.mk ha ⟨t, hat, ?_⟩)
  have hsnone : ∀ {p : Prop}, ¬ p → True := fun _ => trivial
  refine ⟨fun w => (t < 32 ∧ widN t ≤ 8 ∧ (widN t = 0 → t = 0)) ∧ Sat R (lp l (sdrop s 1) :: Hs) w, ?_, ?_⟩
  · have bad : (t < 32 ∧ widN t ≤ 8 ∧ widN t ≤ rest.length ∧ (widN t = 0 → t = 0) ∧ (widN t ≠ 0 → rest.head? ≠ some 0) → False) → parse (t :: rest) = none := fun h => by
      unfold parse; simp only; rw [if_neg h]
    refine Br.d (fun h => ?_) (fun h => ?_)
    · rw [andn hc.1 h]
      refine Br.d (fun h2 => ?_) (fun h2 => ?_)
      · refine Br.d (fun h3 => ?_) (fun h3 => ?_)
        · exact must_c (fun _ => .inl ⟨rfl, ⟨h, by unfold widN; omega, fun h4 => by unfold widN at h4; omega⟩, hw⟩) (fun h => by cases h)
        · refine must_c (fun h4 => .inl ⟨rfl, ⟨h, by unfold widN; omega, fun h5 => ?_⟩, hw⟩) (fun h4 => .inr ⟨_, rfl, bad ?_, rfl, _, hw⟩)
          · simp only [ge_iff_le, Bool.not_eq_true', decide_eq_false_iff_not] at h4
            rw [if_neg h4] at h3; omega
          · simp only [ge_iff_le, Bool.not_eq_false', decide_eq_true_eq] at h4
            rintro ⟨_, _, _, h5, _⟩
            rw [if_pos h4] at h3
            have := h5 (by unfold widN; rw [if_pos h4]; omega)
            omega
      · exact must_c (fun h => by cases h) (fun _ => .inr ⟨_, rfl, bad (by rintro ⟨_, h3, _⟩; unfold widN at h3; omega), rfl, _, hw⟩)
    · exact must_c (fun h => by cases h) (fun _ => .inr ⟨_, rfl, bad (by rintro ⟨h3, _⟩; exact h h3), rfl, _, hw⟩)
  clear hat ha h0 h1
  rintro _ w ⟨⟨h32, h8, hz⟩, hw⟩
  rw [andn hc.1 h32]
  have hwid : (if 16 ≤ t then t - 16 else t) = ((widN t : Nat) : Int) := by
    unfold widN; rw [Int.toNat_of_nonneg]; split <;> omega
  rw [hwid]
  generalize hW : widN t = W at *
  refine (take_spec (k := W) hrd hw).use ?_ ?_
  rotate_left
  · rintro _ w ⟨h, rfl, hw⟩
    refine .inr ⟨_, rfl, ?_, rfl, _, hw⟩
    unfold parse; simp only; rw [if_neg]
    rintro ⟨_, _, h3, _⟩
    have : widN t ≤ rest.length := h3
    simp at h; omega
  rintro _ w ⟨hl, rfl, hw⟩
  have hl : W ≤ rest.length := by simpa using hl
  have hrt : SlR R.m ⟨(sdrop s 1).a, W, (sdrop s 1).cap⟩ (b8 (rest.take W)) := by have := hrd.take (k := W) (by simpa using hl); rwa [← List.map_take] at this
  have hlt : (rest.take W).length = W := by simp; omega
  refine .inl ⟨⟨(sdrop s 1).a, W, (sdrop s 1).cap⟩, rfl, ?_⟩
  refine ⟨fun n i w => ∃ k : Nat, i = k ∧ k ≤ W ∧ n = valI 0 (rest.take k) ∧ (k ≠ 0 → rest.head? ≠ some 0) ∧ Sat R (lp l (sdrop (sdrop s 1) W) :: Hs) w, fun _ i _ => W - i.toNat, ⟨0, rfl, Nat.zero_le _, rfl, fun h => absurd rfl h, hw⟩, ?_⟩
  rintro _ _ _ w ⟨k, rfl, hk, rfl, hh, hw⟩
  refine Br.d (fun h => ?_) (fun h => ?_)
  · have hk2 : k < W := by have : ((k : Nat) : Int) < (W : Int) := h; omega
    have hkr : k < rest.length := by omega
    have := SlR.idxK (Hs := lp l (sdrop (sdrop s 1) W) :: Hs) (S := fun w' => w' = w) hrt (eqS hw) (k := k) (by omega) (F := fun t => t = rest[k]) (by simp)
    obtain ⟨h0, h1, this⟩ := this.out
    obtain ⟨a, ha, x, hat, rfl⟩ := this.out
    refine Rng.mk h0 h1 (NilP.mk ha ⟨_, hat, ?_⟩)
    have hx := hbr rest[k] (List.getElem_mem _)
    have hvb : ∀ x ∈ rest.take k, 0 ≤ x ∧ x < 256 := fun x hx => hbr x (List.mem_of_mem_take hx)
    have hv0 := valI_nn (acc := 0) (Int.le_refl _) hvb
    have hv1 : valI 0 (rest.take k) < 72057594037927936 := by
      refine Int.lt_of_lt_of_le (valI_lt (Int.le_refl _) hvb) ?_
      rw [List.length_take, Nat.min_eq_left (by omega), Int.zero_add, Int.one_mul]
      have h9 : 256 ^ k ≤ 256 ^ 7 := Nat.pow_le_pow_right (by omega) (by omega)
      have : ((256 ^ k : Nat) : Int) ≤ ((256 ^ 7 : Nat) : Int) := Int.ofNat_le.2 h9
      rw [Int.natCast_pow] at this
      exact Int.le_trans this (by decide)
    have hstep : ∀ w, (rest.head? ≠ some 0) → Sat R (lp l (sdrop (sdrop s 1) W) :: Hs) w →
        (∃ k' : Nat, IntKind.i64.wrap ((k : Int) + 1) = k' ∧ k' ≤ W ∧ bitI .or .u64 (shlI .u64 (valI 0 (rest.take k)) 8) (IntKind.u64.wrap rest[k]) = valI 0 (rest.take k') ∧ (k' ≠ 0 → rest.head? ≠ some 0) ∧ Sat R (lp l (sdrop (sdrop s 1) W) :: Hs) w) ∧ W - (IntKind.i64.wrap ((k : Int) + 1)).toNat < W - (k : Int).toNat := fun w h1 hw => by
      rw [wrap64 (by omega) (by omega)]
      refine ⟨⟨k + 1, by omega, by omega, ?_, fun _ => h1, hw⟩, by omega⟩
      rw [shl8_or hv0 hv1 hx.1 hx.2, List.take_succ_eq_append_getElem hkr, valI_snoc]
    refine Br.d (fun h3 => ?_) (fun h3 => ?_)
    · exact must_c (fun _ => .inl ⟨rfl, hstep _ (hh (by omega)) hw⟩) (fun h => by cases h)
    · have hk0 : k = 0 := by omega
      subst hk0
      have hhead : rest.head? = some rest[0] := by rw [List.head?_eq_getElem?, List.getElem?_eq_getElem hkr]
      refine must_c (fun h4 => .inl ⟨rfl, hstep _ ?_ hw⟩) (fun h4 => .inr ⟨_, rfl, ?_, rfl, _, hw⟩)
      · have h4 := of_decide_eq_true h4
        rw [hhead]; intro h5; simp only [Option.some.injEq] at h5; omega
      · have h4 := of_decide_eq_false h4
        unfold parse; simp only; rw [if_neg]
        rintro ⟨_, _, _, _, h5⟩
        have h6 : widN t ≠ 0 := by omega
        refine h5 h6 ?_
        rw [hhead]; congr 1; omega
  · have hkW : k = W := by have : ¬ ((k : Nat) : Int) < (W : Int) := h; omega
    subst hkW
    refine ⟨valI 0 (rest.take k), decide (t ≥ 16), k + 1, sdrop (sdrop s 1) k, ?_, rfl, ?_, ?_⟩
    · unfold parse; simp only
      have e : (if 16 ≤ t then t - 16 else t).toNat = k := hW
      rw [e, if_pos ⟨h32, h8, hl, hz, hh⟩]
    · have := (hr0.drop (k := 1) hlen).drop (k := k) (by simpa using hl)
      simpa using this
    · exact hw
end Go.Proofs.YtadnmnkbgjippaaGreatDoor
/- Package field: Number; reading in general. Condition: none. -/
namespace Go.Proofs.YtadnmnkbgjippaaGreatDoor
set_option linter.unusedVariables false
open Go Go.VC
variable {R : Cx} {Hs Rest : List HP} {w : World}
theorem shr_nat (n k : Nat) (hk : k ≤ 64) : shrI .u64 (n : Int) (k : Int) = ((n / 2 ^ k : Nat) : Int) := by
  have e : min ((k : Int).toNat) IntKind.u64.bits = k := by rw [Int.toNat_natCast]; exact Nat.min_eq_left hk
  unfold shrI
  rw [e, Int.fdiv_eq_ediv_of_nonneg _ (by exact Int.le_of_lt (Int.pow_pos (by decide)))]
  rw [show ((2 : Int) ^ k) = ((2 ^ k : Nat) : Int) from (Int.natCast_pow 2 k).symm]
  exact (Int.natCast_ediv n (2 ^ k)).symm
theorem shr32 (n : Nat) : shrI .u64 (n : Int) 32 = ((n / 4294967296 : Nat) : Int) := shr_nat n 32 (by omega)
theorem shr16 (n : Nat) : shrI .u64 (n : Int) 16 = ((n / 65536 : Nat) : Int) := shr_nat n 16 (by omega)
theorem shr8 (n : Nat) : shrI .u64 (n : Int) 8 = ((n / 256 : Nat) : Int) := shr_nat n 8 (by omega)
theorem len64_spec {n : Nat} (hn : n < 18446744073709551616) (hw : Sat R Hs w) :
    Gets Tryz.prog 62 #[.int .u64 n] w fun v w' => v = .int .i64 (Lib.bitLen n : Nat) ∧ Sat R Hs w' := by
  apply call62
  refine ⟨fun x j w => ∃ m i : Nat, x = m ∧ j = i ∧ m < 4294967296 ∧ i ≤ 32 ∧ Lib.bitLen n = i + Lib.bitLen m ∧ Sat R Hs w, ?_, ?_⟩
  · refine Br.d (fun h => ?_) (fun h => ?_)
    · rw [shr32]
      exact ⟨n / 4294967296, 32, rfl, rfl, by omega, by omega, Lib.bitLen_shift32 n (by omega) hn, hw⟩
    · exact ⟨n, 0, rfl, rfl, by omega, by omega, by omega, hw⟩
  rintro _ _ _ w ⟨m, i, rfl, rfl, hm, hi, he, hw⟩
  refine ⟨fun x j w => ∃ m i : Nat, x = m ∧ j = i ∧ m < 65536 ∧ i ≤ 48 ∧ Lib.bitLen n = i + Lib.bitLen m ∧ Sat R Hs w, ?_, ?_⟩
  · refine Br.d (fun h => ?_) (fun h => ?_)
    · rw [shr16, wrap64 (by omega) (by omega)]
      exact ⟨m / 65536, i + 16, rfl, by omega, by omega, by omega, by have := Lib.bitLen_shift16 m (by omega) (by omega); omega, hw⟩
    · exact ⟨m, i, rfl, rfl, by omega, by omega, he, hw⟩
  clear hm hi he hw
  rintro _ _ _ w ⟨m, i, rfl, rfl, hm, hi, he, hw⟩
  refine Br.d (fun h => ?_) (fun h => ?_)
  · rw [shr8, wrapU8 (by omega) (by omega)]
    have h8 : Lib.bitLen (m / 256) ≤ 8 := Lib.bitLen_le8 ⟨m / 256, by omega⟩
    refine ⟨UInt8.ofNat (Lib.bitLen (m / 256)), by omega, ?_, ?_, hw⟩
    · rw [Int.toNat_natCast]
      obtain ⟨q, hq⟩ : ∃ q : Fin 256, q.1 = m / 256 := ⟨⟨m / 256, by omega⟩, rfl⟩
      rw [← hq]
      clear hq h8 hw he hi hm h
      revert q
      decide +kernel
    · have : (UInt8.ofNat (Lib.bitLen (m / 256))).toNat = Lib.bitLen (m / 256) := by simp; omega
      have h2 := Lib.bitLen_shift8 m (by omega) (by omega)
      rw [this, wrap64 (x := ((Lib.bitLen (m / 256) : Nat) : Int)) (by omega) (by omega), wrap64 (x := (i : Int) + 8) (by omega) (by omega), wrap64 (by omega) (by omega)]
      congr 1; omega
  · rw [wrapU8 (by omega) (by omega)]
    have h8 : Lib.bitLen m ≤ 8 := Lib.bitLen_le8 ⟨m, by omega⟩
    refine ⟨UInt8.ofNat (Lib.bitLen m), by omega, ?_, ?_, hw⟩
    · rw [Int.toNat_natCast]
      obtain ⟨q, hq⟩ : ∃ q : Fin 256, q.1 = m := ⟨⟨m, by omega⟩, rfl⟩
      rw [← hq]
      clear hq h8 hw he hi hm h
      revert q
      decide +kernel
    · have : (UInt8.ofNat (Lib.bitLen m)).toNat = Lib.bitLen m := by simp; omega
      rw [this, wrap64 (x := ((Lib.bitLen m : Nat) : Int)) (by omega) (by omega), wrap64 (by omega) (by omega)]
      congr 1; omega
theorem number_spec {n : Nat} (hn : n < 18446744073709551616) (hw : Sat R Hs w) :
    Gets Tryz.prog 41 #[.int .u64 n] w fun v w' => ∃ t : Sl, v = .slice t.a t.len t.cap ∧ Sat R (Own t 5 (b8 (numB n)) :: Hs) w' := by
  apply call41
  refine (len64_spec hn hw).use ?_
  rintro _ w ⟨rfl, hw⟩
  refine ⟨_, rfl, ?_⟩
  have hwid := dig_width n hn
  have h8 := dig_len8 hn
  generalize hL : (dig n).length = L at *
  have e : IntKind.i64.wrap ((IntKind.i64.wrap (((Lib.bitLen n : Nat) : Int) + 7)).tdiv 8) = (L : Int) := by
    rw [wrap64 (x := ((Lib.bitLen n : Nat) : Int) + 7) (by omega) (by omega), Int.tdiv_eq_ediv_of_nonneg (by omega), wrap64 (by omega) (by omega)]
    omega
  rw [e, wrapU8 (by omega) (by omega)]
  refine new_rule hw fun b w hw => ?_
  have h0 : Sat R (Own ⟨some ⟨b, 0, none⟩, 1, 1⟩ 5 (b8 [(L : Int)]) :: Hs) w := Own.of_pts (xs := b8 [(L : Int)]) (rest := []) hw
  refine ⟨fun wd out w => ∃ k : Nat, wd = k ∧ k ≤ L ∧ Sat R (Own out 5 (b8 ((L : Int) :: (dig n).take (L - k))) :: Hs) w, fun wd _ _ => wd.toNat, ⟨L, rfl, Nat.le_refl _, by simpa using h0⟩, ?_⟩
  clear hw h0
  rintro _ _ out w ⟨k, rfl, hk, hw⟩
  refine Br.d (fun h => ?_) (fun h => ?_)
  · have e1 : IntKind.i64.wrap ((k : Int) - 1) = ((k - 1 : Nat) : Int) := by rw [wrap64 (by omega) (by omega)]; omega
    have e2 : IntKind.i64.wrap (8 * ((k - 1 : Nat) : Int)) = ((8 * (k - 1) : Nat) : Int) := by rw [wrap64 (by omega) (by omega)]; omega
    rw [e1, e2, shr_nat n _ (by omega)]
    refine Ge0.mk (by omega) ?_
    have hd := dig_get (n := n) (k := k - 1) (by omega)
    have hlen : ((L : Int) :: (dig n).take (L - k)).length ≤ 9 := by simp; omega
    refine push_rule elB8 hw (one_b8 _) rfl (by rw [List.length_map]; omega) (by rw [List.length_map]; omega) fun t w hw => ⟨⟨k - 1, rfl, by omega, ?_⟩, by show ((k - 1 : Nat) : Int).toNat < (k : Int).toNat; omega⟩
    have e3 : ((L : Int) :: (dig n).take (L - (k - 1))) = ((L : Int) :: (dig n).take (L - k)) ++ [IntKind.u8.wrap ((n / 2 ^ (8 * (k - 1)) : Nat) : Int)] := by
      have e4 : L - (k - 1) = (L - k) + 1 := by omega
      rw [e4, List.take_succ_eq_append_getElem (by omega), List.cons_append]
      congr 3
      rw [wrapU8m, show (2 : Nat) ^ (8 * (k - 1)) = 256 ^ (k - 1) from by rw [Nat.pow_mul], show ((n / 256 ^ (k - 1) : Nat) : Int) % 256 = ((n / 256 ^ (k - 1) % 256 : Nat) : Int) from (Int.natCast_emod _ _).symm, ← hd]
      congr 1; omega
    rw [e3]
    simpa [b8] using hw
  · have hk0 : k = 0 := by omega
    subst hk0
    refine ⟨out, rfl, ?_⟩
    have : (dig n).take (L - 0) = dig n := List.take_of_length_le (by omega)
    rw [this] at hw
    unfold numB
    rw [hL]; exact hw
abbrev rdCells (s : Sl) (bad : Bool) : Obj := .cells [.slice s.a s.len s.cap, .bool bad].toArray 78 (0, 0)
def RdAt (r : Nat) (rd : Rd) : HP := exs fun s : Sl => Star [pts r (rdCells s rd.bad), Reads s (b8 rd.bs)]
theorem Sat.rd {r : Nat} {rd : Rd} : Sat R (RdAt r rd :: Hs) w ↔ ∃ s : Sl, Sat R (pts r (rdCells s rd.bad) :: Reads s (b8 rd.bs) :: Hs) w := by
  unfold RdAt
  rw [Sat.exs]
  exact ⟨fun ⟨s, h⟩ => ⟨s, Sat.star.1 h⟩, fun ⟨s, h⟩ => ⟨s, Sat.star.2 h⟩⟩
abbrev brCell (r : Nat) : Obj := .cells [.pointer (some ⟨r, 0, none⟩)].toArray 52 (0, 0)
theorem leaveP {br r : Nat} {s : Sl} {bad : Bool} {Kr : World → Prop} (hw : Sat R (pts br (brCell r) :: pts r (rdCells s bad) :: Hs) w) (k : ∀ w, Sat R (pts br (brCell r) :: pts r (rdCells s true) :: Hs) w → Kr w) :
    LeaveF Tryz.prog 64 [.pointer (some ⟨br, 0, none⟩)] (.panicking amissP) Kr w := by
  unfold LeaveF
  refine CallsD.mono (callP64 (some ⟨br, 0, none⟩) (.iface 115 (.agg #[])) Kr w ?_) ?_
  · refine ⟨true, fun w' _ => by kernel_rfl, Br.t rfl ?_⟩
    refine NilP.mk rfl ⟨some ⟨r, 0, none⟩, At.own (eqS hw) (by exact ⟨rfl, trivial⟩), NilP.mk rfl ?_⟩
    have hw := hw.swap
    refine store_rule hw (by kernel_rfl) rfl (by simp [Value.cells]) fun w hw => ?_
    exact k w hw.swap
  · rintro e v w' ⟨hy, rfl, hk⟩
    exact ⟨hy, rfl, hk⟩
theorem leaveR {br : Nat} {Kr : World → Prop} (k : Kr w) : LeaveF Tryz.prog 64 [.pointer (some ⟨br, 0, none⟩)] .returning Kr w := by
  unfold LeaveF
  refine CallsD.mono (callR64 (some ⟨br, 0, none⟩) Kr w ?_) ?_
  · exact ⟨false, fun w' _ => by kernel_rfl, Br.f rfl k⟩
  · rintro e v w' ⟨hy, rfl, hk⟩
    exact ⟨hy, rfl, hk⟩
theorem reading_spec {r : Nat} {rd : Rd} {one : Value} {α : Type} {f : α → List Int} {Hs1 : α → List HP} {Hs2 : List HP} {G : α → Prop} {N : Prop} (hw : Sat R (RdAt r rd :: Hs) w)
    (hone : rd.bad = false → ∀ (x : Heap) (l : Nat) (s : Sl) (A B : HP) (w : World), (∀ b o, x b = some o → (R.add x).m b = some o) → SlR x s (b8 rd.bs) → Sat (R.add x) (lp l s :: A :: B :: Hs) w →
      CalW Tryz.prog cl one [.pointer (some ⟨l, 0, none⟩)] w fun e w' =>
        (e = .returned (.tuple #[]) ∧ ∃ y s', G y ∧ SlR x s' (b8 (f y)) ∧ Sat (R.add x) (lp l s' :: A :: B :: Hs1 y) w') ∨
        (e = .panicked amissP ∧ N ∧ ∃ s', Sat (R.add x) (lp l s' :: A :: B :: Hs2) w')) :
    Gets Tryz.prog 44 #[.pointer (some ⟨r, 0, none⟩), one] w fun v w' => v = .tuple #[] ∧
      ((rd.bad = true ∧ Sat R (RdAt r rd :: Hs) w') ∨ (rd.bad = false ∧ ∃ y, G y ∧ Sat R (RdAt r ⟨f y, false⟩ :: Hs1 y) w') ∨ (rd.bad = false ∧ N ∧ Sat R (RdAt r ⟨rd.bs, true⟩ :: Hs2) w')) := by
  obtain ⟨s, hw⟩ := Sat.rd.1 hw
  apply call44
  refine new_rule hw fun br w hw => ?_
  refine ⟨_, At.own (eqS hw) (by exact ⟨rfl, trivial⟩), NilP.mk rfl ?_⟩
  refine ⟨_, At.own (eqS hw) (by exact ⟨rfl, trivial⟩), must_c (fun h => .inl ⟨rfl, ?_⟩) (fun h => .inr ⟨_, rfl, ?_⟩)⟩
  · have hbad : rd.bad = false := by simpa using h
    refine ⟨_, At.own (eqS hw) (by exact ⟨rfl, trivial⟩), NilP.mk rfl ?_⟩
    refine ⟨_, At.own (eqS hw) (by exact ⟨rfl, trivial⟩), ?_⟩
    refine new_rule hw fun l w hw => ?_
    have hw : Sat R (pts l (.cells [.slice none 0 0].toArray 22 (0, 0)) :: pts br (brCell r) :: pts r (rdCells s rd.bad) :: Reads s (b8 rd.bs) :: Hs) w := hw
    refine store_rule hw (by kernel_rfl) rfl (by simp [Value.cells]) fun w hw => ?_
    have hw : Sat R (lp l s :: pts br (brCell r) :: pts r (rdCells s rd.bad) :: Reads s (b8 rd.bs) :: Hs) w := hw
    have hw : Sat R (Reads s (b8 rd.bs) :: lp l s :: pts br (brCell r) :: pts r (rdCells s rd.bad) :: Hs) w := hw.arr
    obtain ⟨x, hd, _, hx, hs⟩ := Reads.lend hw
    have hsub : ∀ b o, x b = some o → (R.add x).m b = some o := fun b o hb => by
      have := hd b (by rw [hb]; simp)
      simp only [Cx.add, Heap.add, this, hb]
    refine CalW.mono (hone hbad x l s _ _ w hsub hs hx) ?_
    rintro e w' (⟨rfl, bs', s', hg, hs', hw⟩ | ⟨rfl, hn, s', hw⟩)
    · refine .inl ⟨rfl, ?_⟩
      have hw : Sat (R.add x) (pts br (brCell r) :: pts r (rdCells s rd.bad) :: lp l s' :: Hs1 bs') w' := hw.arr
      refine ⟨_, At.own (eqS hw) (by exact ⟨rfl, trivial⟩), ?_⟩
      refine ⟨_, At.own (eqS hw) (by exact ⟨rfl, trivial⟩), NilP.mk rfl ?_⟩
      have hw : Sat (R.add x) (pts r (rdCells s rd.bad) :: lp l s' :: pts br (brCell r) :: Hs1 bs') w' := hw.arr
      refine store_rule hw (by kernel_rfl) rfl (by simp [Value.cells]) fun w hw => ?_
      refine leaveR ⟨rfl, .inr (.inl ⟨hbad, bs', hg, ?_⟩)⟩
      have hw : Sat (R.add x) (pts r (rdCells s' rd.bad) :: lp l s' :: pts br (brCell r) :: Hs1 bs') w := hw
      rw [hbad] at hw
      have hw : Sat (R.add x) (pts r (rdCells s' false) :: Hs1 bs') w := hw.cons fun _ h => h.drop.drop
      refine Sat.rd.2 ⟨s', ?_⟩
      exact (Reads.back hd hs' hw).swap
    · refine .inr ⟨_, rfl, ?_⟩
      have hw : Sat (R.add x) (pts br (brCell r) :: pts r (rdCells s rd.bad) :: lp l s' :: Hs2) w' := hw.arr
      refine leaveP hw fun w hw => ⟨rfl, .inr (.inr ⟨hbad, hn, ?_⟩)⟩
      have hw : Sat (R.add x) (pts r (rdCells s true) :: Hs2) w := hw.drop.cons fun _ h => h.drop
      refine Sat.rd.2 ⟨s, ?_⟩
      exact (Reads.back hd hs hw).swap
  · have hbad : rd.bad = true := by simpa using h
    have hw : Sat R (pts br (brCell r) :: pts r (rdCells s rd.bad) :: Reads s (b8 rd.bs) :: Hs) w := hw
    refine leaveP hw fun w hw => ⟨rfl, .inl ⟨hbad, ?_⟩⟩
    rw [← hbad] at hw
    exact Sat.rd.2 ⟨s, hw.drop⟩
end Go.Proofs.YtadnmnkbgjippaaGreatDoor
/- Package field: a reader's New, Number, Whole. Condition: bounds on lengths. -/
namespace Go.Proofs.YtadnmnkbgjippaaGreatDoor
set_option linter.unusedVariables false
open Go Go.VC
variable {R : Cx} {Hs Rest : List HP} {w : World}
theorem CalW.mk {g : FuncId} {captured : Array Value} {args : List Value} {Q : Ending → World → Prop} (hc : cl g = true) (h : Calls Tryz.prog g (args ++ captured.toList).toArray w Q) : CalW Tryz.prog cl (.func (.func g) #[] captured) args w Q := by
  unfold CalW
  simp only [hc]
  exact h
theorem fnew_spec {s : Sl} {bs : List Int} (hs : Ro R s (b8 bs)) (hl : bs.length ≤ 1099511627776) (hw : Sat R Hs w) :
    Gets Tryz.prog 26 #[.slice s.a s.len s.cap] w fun v w' => ∃ r, v = .pointer (some ⟨r, 0, none⟩) ∧ Sat R (RdAt r ⟨bs, false⟩ :: Hs) w' := by
  apply call26
  refine (clone_spec hs hl hw).use ?_
  rintro _ w ⟨t, rfl, hw⟩
  refine ⟨t, rfl, ?_⟩
  have hw := Own.reads hw
  refine new_rule hw fun r w hw => ⟨r, rfl, Sat.rd.2 ⟨t, hw⟩⟩
theorem whole_spec {r : Nat} {rd : Rd} (hw : Sat R (RdAt r rd :: Hs) w) :
    Gets Tryz.prog 29 #[.pointer (some ⟨r, 0, none⟩)] w fun v w' => v = .bool (rdWhole rd) ∧ Sat R (RdAt r rd :: Hs) w' := by
  obtain ⟨s, hw⟩ := Sat.rd.1 hw
  have hsl : s.len = rd.bs.length := by
    obtain ⟨x, _, _, _, hx⟩ := Reads.lend hw.swap
    have := hx.len; simpa using this
  apply call29
  refine NilP.mk rfl ⟨rd.bad, At.own (eqS hw) (by exact ⟨rfl, trivial⟩), Br.nb (fun h => ?_) (fun h => ?_)⟩
  · refine NilP.mk rfl ?_
    refine ⟨s, At.own (eqS hw) (by exact ⟨rfl, trivial⟩), ?_, Sat.rd.2 ⟨s, hw⟩⟩
    unfold rdWhole
    rw [h, hsl]
    congr 1
    simp only [Bool.not_false, Bool.true_and]
    cases rd.bs with
    | nil => rfl
    | cons => simp; omega
  · refine ⟨?_, Sat.rd.2 ⟨s, hw⟩⟩
    unfold rdWhole
    rw [h]; rfl
theorem num1_spec {h : Heap} {l bm bo : Nat} {s : Sl} {bs : List Int} {most : Int} (hb : ∀ x ∈ bs, 0 ≤ x ∧ x < 256) (hsub : ∀ b o, h b = some o → R.m b = some o) (hr : SlR h s (b8 bs))
    (hw : Sat R (lp l s :: pts bo (.cells [.int .u64 0].toArray 59 (0, 0)) :: pts bm (.cells [.int .u64 most].toArray 59 (0, 0)) :: Hs) w) :
    GetsX Tryz.prog 63 #[.pointer (some ⟨l, 0, none⟩), .pointer (some ⟨bm, 0, none⟩), .pointer (some ⟨bo, 0, none⟩)] w
      (fun ch w' => ch = amissP ∧ (∀ n k, parse bs = some (n, false, k) → ¬ n ≤ most) ∧ ∃ s', Sat R (lp l s' :: pts bo (.cells [.int .u64 0].toArray 59 (0, 0)) :: pts bm (.cells [.int .u64 most].toArray 59 (0, 0)) :: Hs) w')
      (fun v w' => v = .tuple #[] ∧ ∃ n k s', parse bs = some (n, false, k) ∧ n ≤ most ∧ SlR h s' (b8 (bs.drop k)) ∧
        Sat R (lp l s' :: pts bo (.cells [.int .u64 n].toArray 59 (0, 0)) :: pts bm (.cells [.int .u64 most].toArray 59 (0, 0)) :: Hs) w') := by
  apply call63
  refine (fsize_spec hb hsub hr hw).use ?_ ?_
  rotate_left
  · rintro _ w ⟨hp, rfl, s', hw⟩
    refine .inr ⟨_, rfl, rfl, ?_, s', hw⟩
    intro n k h; rw [hp] at h; cases h
  rintro _ w ⟨n, neg, k, s', hp, rfl, hs', hw⟩
  refine .inl ⟨n, neg, rfl, Br.nb (fun h => ?_) (fun h => ?_)⟩
  · subst h
    have hw2 : Sat R (pts bm (.cells [.int .u64 most].toArray 59 (0, 0)) :: lp l s' :: pts bo (.cells [.int .u64 0].toArray 59 (0, 0)) :: Hs) w := hw.arr
    refine NilP.mk rfl ?_
    refine ⟨most, At.own (eqS hw) (by exact ⟨rfl, trivial⟩), must_c (fun h => .inl ⟨rfl, ?_⟩) (fun h => .inr ⟨_, rfl, rfl, ?_, s', hw⟩)⟩
    · have h := of_decide_eq_true h
      have hw : Sat R (pts bo (.cells [.int .u64 0].toArray 59 (0, 0)) :: lp l s' :: pts bm (.cells [.int .u64 most].toArray 59 (0, 0)) :: Hs) w := hw.swap
      refine store_rule hw (by kernel_rfl) rfl (by simp [Value.cells]) fun w hw => ?_
      exact ⟨rfl, n, k, s', hp, h, hs', hw.swap⟩
    · have h := of_decide_eq_false h
      intro n' k' hp'
      rw [hp] at hp'
      simp only [Option.some.injEq, Prod.mk.injEq, true_and] at hp'
      rw [← hp'.1]; exact h
  · subst h
    refine must_c (fun h => by cases h) (fun _ => .inr ⟨_, rfl, rfl, ?_, s', hw⟩)
    intro n' k' hp'
    rw [hp] at hp'
    simp at hp'
theorem rnum_spec {r : Nat} {rd : Rd} {most : Int} (hb : ∀ x ∈ rd.bs, 0 ≤ x ∧ x < 256) (hw : Sat R (RdAt r rd :: Hs) w) :
    Gets Tryz.prog 43 #[.pointer (some ⟨r, 0, none⟩), .int .u64 most] w fun v w' => v = .int .u64 (rdNum most rd).1 ∧ Sat R (RdAt r (rdNum most rd).2 :: Hs) w' := by
  apply call43
  refine new_rule hw fun bm w hw => new_rule hw fun bo w hw => ?_
  have hw : Sat R (pts bo (.cells [.int .u64 0].toArray 59 (0, 0)) :: pts bm (.cells [.int .u64 most].toArray 59 (0, 0)) :: RdAt r rd :: Hs) w := hw
  refine store_rule hw (by kernel_rfl) rfl (by simp [Value.cells]) fun w hw => ?_
  have hw := hw.re (pts bo (.cells [.int .u64 0].toArray 59 (0, 0)))
  have hw : Sat R (RdAt r rd :: pts bo (.cells [.int .u64 0].toArray 59 (0, 0)) :: pts bm (.cells [.int .u64 most].toArray 59 (0, 0)) :: Hs) w := hw.arr
  refine (reading_spec (α := Int × Nat) (f := fun y => rd.bs.drop y.2) (G := fun y => parse rd.bs = some (y.1, false, y.2) ∧ y.1 ≤ most) (N := ∀ n k, parse rd.bs = some (n, false, k) → ¬ n ≤ most)
    (Hs1 := fun y => pts bo (.cells [.int .u64 y.1].toArray 59 (0, 0)) :: pts bm (.cells [.int .u64 most].toArray 59 (0, 0)) :: Hs)
    (Hs2 := pts bo (.cells [.int .u64 0].toArray 59 (0, 0)) :: pts bm (.cells [.int .u64 most].toArray 59 (0, 0)) :: Hs) hw ?_).use ?_
  · intro _ x l s A B w hsub hs hw
    refine CalW.mk (by kernel_rfl) ?_
    have hw2 : Sat (R.add x) (lp l s :: pts bo (.cells [.int .u64 0].toArray 59 (0, 0)) :: pts bm (.cells [.int .u64 most].toArray 59 (0, 0)) :: A :: B :: Hs) w := hw.arr
    refine (num1_spec (h := x) hb hsub hs hw2).use ?_ ?_
    · rintro _ w ⟨rfl, n, k, s', hp, hn, hs', hw⟩
      exact .inl ⟨rfl, (n, k), s', ⟨hp, hn⟩, hs', hw.arr⟩
    · rintro _ w ⟨rfl, hn, s', hw⟩
      exact .inr ⟨rfl, hn, s', hw.arr⟩
  · rintro _ w ⟨rfl, h⟩
    refine ⟨rfl, ?_⟩
    rcases h with ⟨hbad, hw⟩ | ⟨hbad, ⟨n, k⟩, ⟨hp, hn⟩, hw⟩ | ⟨hbad, hno, hw⟩
    · have hw : Sat R (pts bo (.cells [.int .u64 0].toArray 59 (0, 0)) :: RdAt r rd :: pts bm (.cells [.int .u64 most].toArray 59 (0, 0)) :: Hs) w := hw.swap
      refine ⟨0, At.own (eqS hw) (by exact ⟨rfl, trivial⟩), ?_⟩
      unfold rdNum
      rw [if_pos hbad]
      exact ⟨rfl, hw.drop.cons fun _ h => h.drop⟩
    · have hw : Sat R (pts bo (.cells [.int .u64 n].toArray 59 (0, 0)) :: RdAt r ⟨rd.bs.drop k, false⟩ :: pts bm (.cells [.int .u64 most].toArray 59 (0, 0)) :: Hs) w := hw.swap
      refine ⟨n, At.own (eqS hw) (by exact ⟨rfl, trivial⟩), ?_⟩
      unfold rdNum
      rw [if_neg (by rw [hbad]; simp), hp]
      simp only
      rw [if_pos (by simpa using hn)]
      exact ⟨rfl, hw.drop.cons fun _ h => h.drop⟩
    · have hw : Sat R (pts bo (.cells [.int .u64 0].toArray 59 (0, 0)) :: RdAt r ⟨rd.bs, true⟩ :: pts bm (.cells [.int .u64 most].toArray 59 (0, 0)) :: Hs) w := hw.swap
      refine ⟨0, At.own (eqS hw) (by exact ⟨rfl, trivial⟩), ?_⟩
      have e : rdNum most rd = (0, ⟨rd.bs, true⟩) := by
        unfold rdNum
        rw [if_neg (by rw [hbad]; simp)]
        cases hp : parse rd.bs with
        | none => rfl
        | some p =>
          obtain ⟨n, neg, k⟩ := p
          simp only
          rw [if_neg]
          rintro ⟨rfl, h⟩
          exact hno n k hp h
      rw [e]
      exact ⟨rfl, hw.drop.cons fun _ h => h.drop⟩
theorem rdNum_bd {most : Int} {rd : Rd} (hb : ∀ x ∈ rd.bs, 0 ≤ x ∧ x < 256) : ∀ x ∈ (rdNum most rd).2.bs, 0 ≤ x ∧ x < 256 := by
  unfold rdNum
  split
  · exact hb
  · split
    · split
      · exact fun x hx => hb x (List.mem_of_mem_drop hx)
      · exact hb
    · exact hb
theorem rdNum_val {most : Int} {rd : Rd} (hb : ∀ x ∈ rd.bs, 0 ≤ x ∧ x < 256) (hm : 0 ≤ most) : 0 ≤ (rdNum most rd).1 ∧ (rdNum most rd).1 ≤ most := by
  unfold rdNum
  split
  · exact ⟨Int.le_refl _, hm⟩
  · split
    · rename_i n neg k hp
      split
      · rename_i h; exact ⟨(parse_bd hb hp).1, h.2⟩
      · exact ⟨Int.le_refl _, hm⟩
    · exact ⟨Int.le_refl _, hm⟩
end Go.Proofs.YtadnmnkbgjippaaGreatDoor
/- Package field: bytes with their length; a reader's Text. Condition: bounds on lengths. -/
namespace Go.Proofs.YtadnmnkbgjippaaGreatDoor
set_option linter.unusedVariables false
open Go Go.VC
variable {R : Cx} {Hs Rest : List HP} {w : World}
theorem ftext_spec {s : Sl} {bs : List Int} (hs : Ro R s (b8 bs)) (hl : bs.length ≤ 1099511627776) (hw : Sat R Hs w) :
    Gets Tryz.prog 22 #[.slice s.a s.len s.cap] w fun v w' => ∃ t : Sl, v = .slice t.a t.len t.cap ∧ Sat R (Own t 5 (b8 (textB bs)) :: Hs) w' := by
  have hlen : s.len = bs.length := by have := hs.len; simpa using this
  apply call22
  unfold B22
  rw [wrapU64 (by omega) (by omega), hlen]
  refine (number_spec (by omega) hw).use ?_
  rintro _ w ⟨t, rfl, hw⟩
  refine ⟨t, rfl, ?_⟩
  rw [← hlen]
  have hn := numB_len (n := bs.length) (by omega)
  have hsrc : Src Tryz.prog 1 22 (.slice s.a s.len s.cap) bs.length (b8 bs) w := by
    have := srcRo Tryz.underlying22 hw hs (one_b8 _)
    simpa using this
  refine append_rule elB8 (s := t) hw hsrc (one_b8 _) (by rw [List.length_map]; omega) (by rw [List.length_map]; omega) fun s2 w hw => ?_
  exact ⟨s2, rfl, by simpa [b8, textB] using hw⟩
theorem text1_spec {h : Heap} {l bm bo : Nat} {s : Sl} {bs : List Int} {most : Int} (hm : most < 9223372036854775808) (hl : bs.length ≤ 1099511627776) (hb : ∀ x ∈ bs, 0 ≤ x ∧ x < 256) (hsub : ∀ b o, h b = some o → R.m b = some o) (hr : SlR h s (b8 bs))
    (hw : Sat R (lp l s :: lp bo ⟨none, 0, 0⟩ :: pts bm (.cells [.int .i64 most].toArray 3 (0, 0)) :: Hs) w) :
    GetsX Tryz.prog 45 #[.pointer (some ⟨l, 0, none⟩), .pointer (some ⟨bm, 0, none⟩), .pointer (some ⟨bo, 0, none⟩)] w
      (fun ch w' => ch = amissP ∧ (∀ n k, parse bs = some (n, false, k) → ¬ (0 ≤ most ∧ n ≤ most ∧ n ≤ (bs.length : Int) - k)) ∧ ∃ s', Sat R (lp l s' :: lp bo ⟨none, 0, 0⟩ :: pts bm (.cells [.int .i64 most].toArray 3 (0, 0)) :: Hs) w')
      (fun v w' => v = .tuple #[] ∧ ∃ n k s' t, parse bs = some (n, false, k) ∧ (0 ≤ most ∧ n ≤ most ∧ n ≤ (bs.length : Int) - k) ∧ SlR h s' (b8 (bs.drop (k + n.toNat))) ∧
        Sat R (lp l s' :: lp bo t :: Own t 5 (b8 ((bs.drop k).take n.toNat)) :: pts bm (.cells [.int .i64 most].toArray 3 (0, 0)) :: Hs) w') := by
  apply call45
  refine (fsize_spec hb hsub hr hw).use ?_ ?_
  rotate_left
  · rintro _ w ⟨hp, rfl, s', hw⟩
    refine .inr ⟨_, rfl, rfl, ?_, s', hw⟩
    intro n k h; rw [hp] at h; cases h
  rintro _ w ⟨n, neg, k, s', hp, rfl, hs', hw⟩
  obtain ⟨n0, n1, k0, k1, k2⟩ := parse_bd hb hp
  have no : (∀ n' k', parse bs = some (n', false, k') → ¬ (0 ≤ most ∧ n' ≤ most ∧ n' ≤ (bs.length : Int) - k')) → ∀ {A : Prop} {e : Ending}, (e = .panicked amissP) → (e = .returned (.tuple #[]) ∧ A) ∨ ∃ ch, e = .panicked ch ∧ ch = amissP ∧ (∀ n k, parse bs = some (n, false, k) → ¬ (0 ≤ most ∧ n ≤ most ∧ n ≤ (bs.length : Int) - k)) ∧ ∃ s', Sat R (lp l s' :: lp bo ⟨none, 0, 0⟩ :: pts bm (.cells [.int .i64 most].toArray 3 (0, 0)) :: Hs) w := fun h A e he =>
    .inr ⟨_, he, rfl, h, s', hw⟩
  have same : ∀ n' k', parse bs = some (n', false, k') → neg = false ∧ n' = n ∧ k' = k := fun n' k' h => by
    rw [hp] at h
    simp only [Option.some.injEq, Prod.mk.injEq] at h
    exact ⟨h.2.1, h.1.symm, h.2.2.symm⟩
  refine .inl ⟨n, neg, rfl, Br.nb (fun h => ?_) (fun h => ?_)⟩
  rotate_left
  · refine must_c (fun h => by cases h) (fun _ => no (fun n' k' h' => ?_) rfl)
    rw [(same n' k' h').1] at h; cases h
  subst h
  have hw2 : Sat R (pts bm (.cells [.int .i64 most].toArray 3 (0, 0)) :: lp l s' :: lp bo ⟨none, 0, 0⟩ :: Hs) w := hw.arr
  refine NilP.mk rfl ⟨most, At.own (eqS hw2) (by exact ⟨rfl, trivial⟩), Br.d (fun h1 => ?_) (fun h1 => ?_)⟩
  rotate_left
  · refine must_c (fun h => by cases h) (fun _ => no (fun n' k' h' h2 => by omega) rfl)
  refine NilP.mk rfl ⟨most, At.own (eqS hw2) (by exact ⟨rfl, trivial⟩), ?_⟩
  rw [wrapU64 (by omega) (by omega)]
  refine Br.d (fun h2 => ?_) (fun h2 => ?_)
  rotate_left
  · refine must_c (fun h => by cases h) (fun _ => no (fun n' k' h' h3 => by have := (same n' k' h').2.1; omega) rfl)
  have hsl : s'.len = bs.length - k := by have := hs'.len; simpa using this
  refine NilP.mk rfl ⟨s', At.own (eqS hw) (by exact ⟨rfl, trivial⟩), ?_⟩
  rw [wrapU64 (by omega) (by omega), hsl]
  refine must_c (fun h3 => .inl ⟨rfl, ?_⟩) (fun h3 => ?_)
  rotate_left
  · have h3 := of_decide_eq_false h3
    refine no (fun n' k' h' h4 => ?_) rfl
    have := same n' k' h'
    omega
  have h3 := of_decide_eq_true h3
  rw [wrap64 (by omega) (by omega)]
  obtain ⟨m, rfl⟩ := Int.eq_ofNat_of_zero_le n0
  have hm' : SlR R.m s' (b8 (bs.drop k)) := hs'.mono hsub
  refine (take_spec (k := m) hm' hw).use ?_ ?_
  rotate_left
  · rintro _ w ⟨h4, _⟩
    simp at h4; omega
  rintro _ w ⟨_, rfl, hw⟩
  refine .inl ⟨⟨s'.a, m, s'.cap⟩, rfl, ?_⟩
  have ht : SlR R.m ⟨s'.a, m, s'.cap⟩ (b8 ((bs.drop k).take m)) := by
    have := hm'.take (k := m) (by simp; omega)
    rwa [← List.map_take] at this
  refine (clone_spec (s := ⟨s'.a, m, s'.cap⟩) (ht.ro (by simp; omega)) (by simp; omega) hw).use ?_
  rintro _ w ⟨t, rfl, hw⟩
  refine .inl ⟨t, rfl, ?_⟩
  have hw : Sat R (lp bo ⟨none, 0, 0⟩ :: Own t 5 (b8 ((bs.drop k).take m)) :: lp l (sdrop s' m) :: pts bm (.cells [.int .i64 most].toArray 3 (0, 0)) :: Hs) w := hw.arr
  refine store_rule hw (by kernel_rfl) rfl (by simp [Value.cells]) fun w hw => ?_
  have hw := hw.re (lp bo t)
  refine ⟨rfl, m, k, sdrop s' m, t, hp, ⟨by omega, h2, by omega⟩, ?_, ?_⟩
  · have := hs'.drop (k := m) (by simp; omega)
    rw [← List.map_drop, List.drop_drop] at this
    exact this
  · rw [Int.toNat_natCast]; exact hw.arr
theorem rtext_spec {r : Nat} {rd : Rd} {most : Int} (hm : most < 9223372036854775808) (hl : rd.bs.length ≤ 1099511627776) (hb : ∀ x ∈ rd.bs, 0 ≤ x ∧ x < 256) (hw : Sat R (RdAt r rd :: Hs) w) :
    Gets Tryz.prog 28 #[.pointer (some ⟨r, 0, none⟩), .int .i64 most] w fun v w' => ∃ t : Sl, v = .slice t.a t.len t.cap ∧ Sat R (Own t 5 (b8 (rdText most rd).1) :: RdAt r (rdText most rd).2 :: Hs) w' := by
  apply call28
  refine new_rule hw fun bm w hw => new_rule hw fun bo w hw => ?_
  have hw : Sat R (RdAt r rd :: lp bo ⟨none, 0, 0⟩ :: pts bm (.cells [.int .i64 most].toArray 3 (0, 0)) :: Hs) w := by
    have hw : Sat R (lp bo ⟨none, 0, 0⟩ :: pts bm (.cells [.int .i64 most].toArray 3 (0, 0)) :: RdAt r rd :: Hs) w := hw
    exact hw.arr
  refine (reading_spec (α := (Int × Nat) × Sl) (f := fun y => rd.bs.drop (y.1.2 + y.1.1.toNat)) (G := fun y => parse rd.bs = some (y.1.1, false, y.1.2) ∧ (0 ≤ most ∧ y.1.1 ≤ most ∧ y.1.1 ≤ (rd.bs.length : Int) - y.1.2)) (N := ∀ n k, parse rd.bs = some (n, false, k) → ¬ (0 ≤ most ∧ n ≤ most ∧ n ≤ (rd.bs.length : Int) - k))
    (Hs1 := fun y => lp bo y.2 :: Own y.2 5 (b8 ((rd.bs.drop y.1.2).take y.1.1.toNat)) :: pts bm (.cells [.int .i64 most].toArray 3 (0, 0)) :: Hs)
    (Hs2 := lp bo ⟨none, 0, 0⟩ :: pts bm (.cells [.int .i64 most].toArray 3 (0, 0)) :: Hs) hw ?_).use ?_
  · intro _ x l s A B w hsub hs hw
    refine CalW.mk (by kernel_rfl) ?_
    have hw2 : Sat (R.add x) (lp l s :: lp bo ⟨none, 0, 0⟩ :: pts bm (.cells [.int .i64 most].toArray 3 (0, 0)) :: A :: B :: Hs) w := hw.arr
    refine (text1_spec (h := x) hm hl hb hsub hs hw2).use ?_ ?_
    · rintro _ w ⟨rfl, n, k, s', t, hp, hn, hs', hw⟩
      exact .inl ⟨rfl, ((n, k), t), s', ⟨hp, hn⟩, hs', hw.arr⟩
    · rintro _ w ⟨rfl, hn, s', hw⟩
      exact .inr ⟨rfl, hn, s', hw.arr⟩
  · rintro _ w ⟨rfl, h⟩
    refine ⟨rfl, ?_⟩
    rcases h with ⟨hbad, hw⟩ | ⟨hbad, ⟨⟨n, k⟩, t⟩, ⟨hp, hn⟩, hw⟩ | ⟨hbad, hno, hw⟩
    · have hw : Sat R (lp bo ⟨none, 0, 0⟩ :: RdAt r rd :: pts bm (.cells [.int .i64 most].toArray 3 (0, 0)) :: Hs) w := hw.swap
      refine ⟨⟨none, 0, 0⟩, At.own (eqS hw) (by exact ⟨rfl, trivial⟩), ?_⟩
      unfold rdText
      rw [if_pos hbad]
      exact ⟨_, rfl, Own.nil (hw.drop.cons fun _ h => h.drop)⟩
    · have hw : Sat R (lp bo t :: Own t 5 (b8 ((rd.bs.drop k).take n.toNat)) :: RdAt r ⟨rd.bs.drop (k + n.toNat), false⟩ :: pts bm (.cells [.int .i64 most].toArray 3 (0, 0)) :: Hs) w := hw.arr
      refine ⟨t, At.own (eqS hw) (by exact ⟨rfl, trivial⟩), ?_⟩
      unfold rdText
      rw [if_neg (by rw [hbad]; simp), hp]
      simp only
      rw [if_pos ⟨trivial, hn⟩]
      exact ⟨_, rfl, hw.drop.cons fun _ h => h.cons fun _ h => h.drop⟩
    · have hw : Sat R (lp bo ⟨none, 0, 0⟩ :: RdAt r ⟨rd.bs, true⟩ :: pts bm (.cells [.int .i64 most].toArray 3 (0, 0)) :: Hs) w := hw.swap
      refine ⟨⟨none, 0, 0⟩, At.own (eqS hw) (by exact ⟨rfl, trivial⟩), ?_⟩
      have e : rdText most rd = ([], ⟨rd.bs, true⟩) := by
        unfold rdText
        rw [if_neg (by rw [hbad]; simp)]
        cases hp : parse rd.bs with
        | none => rfl
        | some p =>
          obtain ⟨n, neg, k⟩ := p
          simp only
          rw [if_neg]
          rintro ⟨rfl, h⟩
          exact hno n k hp h
      rw [e]
      exact ⟨_, rfl, Own.nil (hw.drop.cons fun _ h => h.drop)⟩
theorem rdText_len {most : Int} {rd : Rd} : (rdText most rd).1.length ≤ rd.bs.length ∧ (rdText most rd).2.bs.length ≤ rd.bs.length := by
  unfold rdText
  split
  · simp
  · split
    · split
      · simp; omega
      · simp
    · simp
theorem rdNum_len {most : Int} {rd : Rd} : (rdNum most rd).2.bs.length ≤ rd.bs.length := by
  unfold rdNum
  split
  · simp
  · split
    · split
      · simp
      · simp
    · simp
end Go.Proofs.YtadnmnkbgjippaaGreatDoor


/- Floats, plain, part 4: how any two stand to each other, by one integer each. No program. No condition. -/
namespace Go.VC
set_option linter.unusedVariables false
open Ieee
def bigF : Int := 2 ^ 2200
def valD : Datum → Option Int
  | .nan .. => none
  | .infinity s => some (if s then -bigF else bigF)
  | .number s m i => some (signed s m (i + 1074).toNat)
def kvF (x : Nat) : Int := match valD (double.read x) with | none => -bigF - 1 | some v => v
end Go.VC
/- Who waits, plainly: their order, putting in, taking out, the first that fits. No condition. -/
namespace Go.VC
set_option linter.unusedVariables false
structure Wt where
  id : Int
  cls : Int
  many : Int
  time : Int
  sc : Nat
deriving DecidableEq
def Wt.Ok (w : Wt) : Prop := (1 ≤ w.id ∧ w.id ≤ 28629151) ∧ (0 ≤ w.cls ∧ w.cls ≤ 7) ∧ (1 ≤ w.many ∧ w.many ≤ 600) ∧ (0 ≤ w.time ∧ w.time ≤ 1099511627776)
instance (w : Wt) : Decidable w.Ok := by unfold Wt.Ok; infer_instance
def Wt.ahead (a b : Wt) : Bool := if kvF a.sc = kvF b.sc then (if a.time = b.time then decide (a.id < b.id) else decide (a.time < b.time)) else decide (kvF b.sc < kvF a.sc)
theorem ahead_iff {a b : Wt} : a.ahead b = true ↔ kvF b.sc < kvF a.sc ∨ kvF a.sc = kvF b.sc ∧ (a.time < b.time ∨ a.time = b.time ∧ a.id < b.id) := by
  unfold Wt.ahead
  split
  · split
    · simp; omega
    · simp; omega
  · simp; omega
theorem ahead_trans {a b c : Wt} (h1 : a.ahead b = true) (h2 : b.ahead c = true) : a.ahead c = true := by
  rw [ahead_iff] at *; omega
theorem ahead_tot {a b : Wt} (h : a.id ≠ b.id) (h1 : a.ahead b = false) : b.ahead a = true := by
  rw [ahead_iff]
  have : ¬ a.ahead b = true := by rw [h1]; simp
  rw [ahead_iff] at this
  omega
def QSt (q : List Wt) : Prop := q.Pairwise fun a b => a.ahead b = true
def QIds (q : List Wt) : Prop := q.Pairwise fun a b => a.id ≠ b.id
structure QOk (q : List Wt) : Prop where
  st : QSt q
  ids : QIds q
  ok : ∀ w ∈ q, w.Ok
  fl : ∀ w ∈ q, w.sc < 18446744073709551616
  len : q.length ≤ 200
theorem QOk.nil : QOk [] := ⟨List.Pairwise.nil, List.Pairwise.nil, fun _ h => (by cases h), fun _ h => (by cases h), by simp⟩
def insQ (w : Wt) (q : List Wt) : List Wt := q.takeWhile (fun a => a.ahead w) ++ w :: q.dropWhile (fun a => a.ahead w)
theorem insQ_cons (w a : Wt) (q : List Wt) : insQ w (a :: q) = if a.ahead w then a :: insQ w q else w :: a :: q := by
  unfold insQ
  rw [List.takeWhile_cons, List.dropWhile_cons]
  split <;> rfl
theorem insQ_mem {w x : Wt} : ∀ {q : List Wt}, x ∈ insQ w q ↔ x = w ∨ x ∈ q
  | [] => by simp [insQ]
  | a :: q => by
    rw [insQ_cons]
    split
    · rw [List.mem_cons, insQ_mem, List.mem_cons]
      constructor
      · rintro (h | h | h) <;> simp [h]
      · rintro (h | h | h) <;> simp [h]
    · rw [List.mem_cons]
theorem insQ_len {w : Wt} : ∀ {q : List Wt}, (insQ w q).length = q.length + 1
  | [] => rfl
  | a :: q => by
    rw [insQ_cons]
    split
    · rw [List.length_cons, insQ_len, List.length_cons]
    · rfl
theorem insQ_st {w : Wt} : ∀ {q : List Wt}, QSt q → (∀ x ∈ q, x.id ≠ w.id) → QSt (insQ w q)
  | [], _, _ => List.Pairwise.cons (fun _ h => (by cases h)) List.Pairwise.nil
  | a :: q, h, hid => by
    have h1 := List.pairwise_cons.1 h
    rw [insQ_cons]
    split
    · rename_i ha
      refine List.Pairwise.cons (fun x hx => ?_) (insQ_st h1.2 fun x hx => hid x (by simp [hx]))
      rcases insQ_mem.1 hx with rfl | hx
      · exact ha
      · exact h1.1 x hx
    · rename_i ha
      have hwa : w.ahead a = true := ahead_tot (hid a (by simp)) (by simpa using ha)
      refine List.Pairwise.cons (fun x hx => ?_) h
      rcases List.mem_cons.1 hx with rfl | hx
      · exact hwa
      · exact ahead_trans hwa (h1.1 x hx)
theorem insQ_ids {w : Wt} : ∀ {q : List Wt}, QIds q → (∀ x ∈ q, x.id ≠ w.id) → QIds (insQ w q)
  | [], _, _ => List.Pairwise.cons (fun _ h => (by cases h)) List.Pairwise.nil
  | a :: q, h, hid => by
    have h1 := List.pairwise_cons.1 h
    rw [insQ_cons]
    split
    · refine List.Pairwise.cons (fun x hx => ?_) (insQ_ids h1.2 fun x hx => hid x (by simp [hx]))
      rcases insQ_mem.1 hx with rfl | hx
      · exact hid a (by simp)
      · exact h1.1 x hx
    · refine List.Pairwise.cons (fun x hx => ?_) h
      exact fun e => hid x hx e.symm
def hasQ (id : Int) (q : List Wt) : Bool := q.any fun w => decide (w.id = id)
def qadd (q : List Wt) (w : Wt) : List Wt × Int :=
  if ¬ w.Ok then (q, 1) else if hasQ w.id q then (q, 7) else if 200 ≤ q.length then (q, 3) else (insQ w q, 0)
def delQ (id : Int) : List Wt → List Wt
  | [] => []
  | w :: q => if w.id = id then q else w :: delQ id q
def qrem (q : List Wt) (id : Int) : List Wt × Int := if hasQ id q then (delQ id q, 0) else (q, 2)
theorem hasQ_no {id : Int} {q : List Wt} : hasQ id q = false ↔ ∀ w ∈ q, w.id ≠ id := by
  unfold hasQ
  simp
theorem delQ_sub {id : Int} : ∀ {q : List Wt}, (delQ id q).Sublist q
  | [] => List.Sublist.refl _
  | w :: q => by
    show (if w.id = id then q else w :: delQ id q).Sublist _
    split
    · exact List.sublist_cons_self _ _
    · exact delQ_sub.cons_cons _
theorem QOk.del {q : List Wt} (h : QOk q) (id : Int) : QOk (delQ id q) :=
  ⟨h.st.sublist delQ_sub, h.ids.sublist delQ_sub, fun w hw => h.ok w (delQ_sub.subset hw), fun w hw => h.fl w (delQ_sub.subset hw), Nat.le_trans delQ_sub.length_le h.len⟩
theorem QOk.rem {q : List Wt} (h : QOk q) (id : Int) : QOk (qrem q id).1 := by
  unfold qrem
  split
  · exact h.del id
  · exact h
theorem QOk.ins {q : List Wt} (h : QOk q) {w : Wt} (hw : w.Ok) (hf : w.sc < 18446744073709551616) (hn : hasQ w.id q = false) (hl : q.length < 200) : QOk (insQ w q) := by
  have hn' := hasQ_no.1 hn
  refine ⟨insQ_st h.st hn', insQ_ids h.ids hn', fun x hx => ?_, fun x hx => ?_, by rw [insQ_len]; omega⟩
  · rcases insQ_mem.1 hx with rfl | hx
    · exact hw
    · exact h.ok x hx
  · rcases insQ_mem.1 hx with rfl | hx
    · exact hf
    · exact h.fl x hx
theorem QOk.add {q : List Wt} (h : QOk q) {w : Wt} (hf : w.sc < 18446744073709551616) : QOk (qadd q w).1 := by
  unfold qadd
  split
  · exact h
  · rename_i h1
    split
    · exact h
    · rename_i h2
      split
      · exact h
      · rename_i h3
        exact h.ins (by simpa using h1) hf (by simpa using h2) (by omega)
end Go.VC

/- Lists by keys. No condition. -/
namespace Go.VC
set_option linter.unusedVariables false
section
variable {α : Type} {k : α → Int}
def KRise (k : α → Int) (l : List α) : Prop := l.Pairwise fun a b => k a < k b
theorem KRise.ne {l : List α} (h : KRise k l) : l.Pairwise fun a b => k a ≠ k b := h.imp fun hab e => by omega
end
end Go.VC

/- The formulas of functions of this seat's translation, printed by a program of mine off the translation; each is proved equal to 'fnF' of the function's body, so it is enough for the call. No condition. -/
namespace Go.Proofs.YtadnmnkbgjippaaGreatDoor
open Go Go.VC
set_option linter.unusedVariables false
set_option maxRecDepth 10000
def B40 (s0 : Sl) (f1 : Value) (K : Value → World → Prop) (w : World) : Prop :=
  Calls Tryz.prog 61 #[.slice s0.a s0.len s0.cap, f1] w fun e w_1 =>
  ∃ t7 : Int, (e = .returned (.int .i64 t7)) ∧
  K (.bool (decide (t7 ≥ 0))) w_1
def sk40 : Sk := .leaf
theorem ok40 : fnOk Tryz.prog Tryz.f40.ntmps Tryz.f40 sk40 = true := by kernel_rfl
theorem eq40 (s0 : Sl) (f1 : Value) (K : Value → World → Prop) (w : World) : fnF Tryz.prog cl Tryz.f40 sk40 [.slice s0.a s0.len s0.cap, f1] K w = B40 s0 f1 K w := by kernel_rfl
theorem call40 (s0 : Sl) (f1 : Value) (K : Value → World → Prop) (w : World) (h : B40 s0 f1 K w) : Gets Tryz.prog 40 #[.slice s0.a s0.len s0.cap, f1] w K :=
  calls_of (sk := sk40) cl_ok mixed Tryz.func40 ok40 (args := [.slice s0.a s0.len s0.cap, f1]) (Nat.le_of_ble_eq_true (by kernel_rfl)) (by rw [eq40]; exact h)
def B61 (s0 : Sl) (f1 : Value) (K : Value → World → Prop) (w : World) : Prop :=
  ∃ (I : Int → World → Prop) (μ : Int → World → Nat), (I 0 w) ∧ ∀ (z : Env) (t8 : Int) (w_1 : World), I t8 w_1 →
  Br (decide (t8 < (↑s0.len : Int)))
   (Rng t8 s0.len (NilP s0.a fun a_t14 =>
    ∃ t15 : Int, (At (fun w' => w' = w_1) (Addr.add a_t14 t8.toNat) [.int .i64 t15]) ∧
    CalW Tryz.prog cl f1 [.int .i64 t15] w_1 fun e w_2 =>
    ∃ t16 : Bool, (e = .returned (.bool t16)) ∧
    Br t16
     (K (.int .i64 t8) w_2)
     ((I (IntKind.i64.wrap (t8 + 1)) w_2) ∧ μ (IntKind.i64.wrap (t8 + 1)) w_2 < μ t8 w_1)))
   (K (.int .i64 ((-1))) w_1)
def sk61 : Sk := (.seq .leaf (.seq (.seq .leaf (.block (.loop [8] [(.int .i64)] [4, 5, 8, 9, 10, 11, 12, 13, 14, 15, 16, 17, 18] .leaf))) .leaf))
theorem ok61 : fnOk Tryz.prog Tryz.f61.ntmps Tryz.f61 sk61 = true := by kernel_rfl
theorem eq61 (s0 : Sl) (f1 : Value) (K : Value → World → Prop) (w : World) : fnF Tryz.prog cl Tryz.f61 sk61 [.slice s0.a s0.len s0.cap, f1] K w = B61 s0 f1 K w := by kernel_rfl
theorem call61 (s0 : Sl) (f1 : Value) (K : Value → World → Prop) (w : World) (h : B61 s0 f1 K w) : Gets Tryz.prog 61 #[.slice s0.a s0.len s0.cap, f1] w K :=
  calls_of (sk := sk61) cl_ok mixed Tryz.func61 ok61 (args := [.slice s0.a s0.len s0.cap, f1]) (Nat.le_of_ble_eq_true (by kernel_rfl)) (by rw [eq61]; exact h)
end Go.Proofs.YtadnmnkbgjippaaGreatDoor

/- SL, part 13: appends of integers; new arrays as slices of one's own. Condition: bounds on lengths. -/
namespace Go.VC
set_option linter.unusedVariables false
variable {P : Program} {R : Cx} {Hs Rest : List HP} {w : World} {s t : Sl} {T T2 : TypeId}
theorem oneAll_k (k : IntKind) (xs : List Int) : oneAll (xs.map (Value.int k)) = true := by
  induction xs with
  | nil => rfl
  | cons x xs ih => simp only [List.map_cons, oneAll, List.all_cons, Bool.and_eq_true]; exact ⟨rfl, ih⟩
theorem own_lit {b n : Nat} {l : List Value} {fr : Nat × Nat} (hw : Sat R (pts b (.cells l.toArray T fr) :: Hs) w) (hn : n = l.length := by rfl) (hf : okFr l.length fr := by first | assumption | exact Or.inl rfl) : Sat R (Own ⟨some ⟨b, 0, none⟩, n, n⟩ T l :: Hs) w := by
  subst hn
  have := Own.of_pts (xs := l) (rest := []) (by simpa using hw) (by simpa using hf)
  simpa using this
theorem appendRI {t1 t2 ty e' : TypeId} {bytes n : Nat} {k : IntKind} (E : El P t1 t2 T bytes) {xs ys : List Int} {K : Sl → World → Prop} (h2 : P.underlying t2 = some (.slice e'))
    (hw : Sat R (Own s T (xs.map (Value.int k)) :: Hs) w) (hy : Ro R t (ys.map (Value.int k))) (hn : xs.length + ys.length ≤ n) (hb : 2 * n * bytes ≤ 281474976710656) (hb' : n ≤ 9223372036854775807)
    (kk : ∀ s' w', Sat R (Own s' T ((xs ++ ys).map (Value.int k)) :: Hs) w' → K s' w') :
    ∃ w', ∃ t' : Sl, (Builtin.append_ #[t1, t2] ty #[.slice s.a s.len s.cap, .slice t.a t.len t.cap]).run P w = .ok (.slice t'.a t'.len t'.cap) w' ∧ K t' w' := by
  have hsrc : Src P 1 t2 (.slice t.a t.len t.cap) ys.length (ys.map (Value.int k)) w := by
    have := srcRo h2 hw hy (oneAll_k _ _)
    simpa using this
  refine append_rule E (s := s) hw hsrc (oneAll_k _ _) ?_ (by rw [List.length_map]; omega) fun s2 w hw => kk s2 w (by simpa using hw)
  rw [List.length_map]
  have : 2 * (xs.length + ys.length) * bytes ≤ 2 * n * bytes := Nat.mul_le_mul_right _ (by omega)
  omega
theorem appendOO {t1 t2 ty e' : TypeId} {bytes n : Nat} {k : IntKind} (E : El P t1 t2 T bytes) {xs ys : List Int} {K : Sl → World → Prop} (h2 : P.underlying t2 = some (.slice e'))
    (hw : Sat R (Own s T (xs.map (Value.int k)) :: Own t T2 (ys.map (Value.int k)) :: Hs) w) (hn : xs.length + ys.length ≤ n) (hb : 2 * n * bytes ≤ 281474976710656) (hb' : n ≤ 9223372036854775807)
    (kk : ∀ s' w', Sat R (Own s' T ((xs ++ ys).map (Value.int k)) :: Own t T2 (ys.map (Value.int k)) :: Hs) w' → K s' w') :
    ∃ w', ∃ t' : Sl, (Builtin.append_ #[t1, t2] ty #[.slice s.a s.len s.cap, .slice t.a t.len t.cap]).run P w = .ok (.slice t'.a t'.len t'.cap) w' ∧ K t' w' := by
  obtain ⟨R', hr, _, hw, back⟩ := Own.lend hw.swap (by rw [List.length_map]; omega)
  exact appendRI E h2 hw hr hn hb hb' fun s' w' hw => kk s' w' (back hw).swap
theorem Ro.ix {k : IntKind} {xs : List Int} {S : World → Prop} {i : Int} (hr : Ro R s (xs.map (Value.int k))) (hS : ∀ w, S w → Sat R Hs w) (j : Nat) (hi : i = j) (hj : j < xs.length) {F : Int → Prop} (h : F xs[j]) :
    Rng i s.len (NilP s.a fun a => ∃ t : Int, (At S (a.add i.toNat) [.int k t]) ∧ F t) := by
  subst hi
  exact hr.idxK hS hj h
theorem SlR.ix {k : IntKind} {xs : List Int} {S : World → Prop} {i : Int} (hr : SlR R.m s (xs.map (Value.int k))) (hS : ∀ w, S w → Sat R Hs w) (j : Nat) (hi : i = j) (hj : j < xs.length) {F : Int → Prop} (h : F xs[j]) :
    Rng i s.len (NilP s.a fun a => ∃ t : Int, (At S (a.add i.toNat) [.int k t]) ∧ F t) := by
  subst hi
  exact hr.idxK hS hj h
end Go.VC
/- SL, part 14: memory of one's own, made into memory that is only read, for good. No condition. -/
namespace Go.VC
set_option linter.unusedVariables false
variable {P : Program} {R R' R'' : Cx} {Hs Rest : List HP} {w : World} {s : Sl} {T : TypeId}
structure Cx.Ext (R R' : Cx) : Prop where
  m : ∀ b o, R.m b = some o → R'.m b = some o
  like : R'.like R
theorem Cx.Ext.refl : R.Ext R := ⟨fun _ _ h => h, rfl, rfl, rfl⟩
theorem Cx.Ext.trans (h : R.Ext R') (h' : R'.Ext R'') : R.Ext R'' :=
  ⟨fun b o hb => h'.m b o (h.m b o hb), h.like.1.trans h'.like.1, h.like.2.1.trans h'.like.2.1, h.like.2.2.trans h'.like.2.2⟩
theorem Cx.Ext.add {h : Heap} : R.Ext (R.add h) := ⟨fun b o hb => by simp only [Cx.add, Heap.add, hb], rfl, rfl, rfl⟩
theorem Cx.Ext.back (h : R.Ext R') (hw : Sat R' Hs w) : Sat R Hs w := Sat.ro_of h.m h.like hw
theorem Cx.Ext.ro {xs : List Value} (h : R.Ext R') (a : Ro R s xs) : Ro R' s xs :=
  ⟨a.len, a.bound, fun hx => let ⟨b, off, l, T, fr, h1, h2, h3⟩ := a.mem hx; ⟨b, off, l, T, fr, h1, h.m _ _ h2, h3⟩⟩
theorem Reads.leak {xs : List Value} (h : Sat R (Reads s xs :: Hs) w) : ∃ R' : Cx, R.Ext R' ∧ SlR R'.m s xs ∧ Sat R' Hs w := by
  obtain ⟨x, _, h1, h2, _⟩ := Reads.lend h
  exact ⟨_, .add, h1, h2⟩
theorem Own.leak {xs : List Value} (h : Sat R (Own s T xs :: Hs) w) : ∃ R' : Cx, R.Ext R' ∧ SlR R'.m s xs ∧ Sat R' Hs w := Reads.leak (Own.reads h)
theorem OwnN.leak {n : Nat} {rows : List (List Value)} (h : Sat R (OwnN n s T rows :: Hs) w) : ∃ R' : Cx, R.Ext R' ∧ RoN n R' s rows ∧ Sat R' Hs w := by
  obtain ⟨R', h1, ⟨x, rfl⟩, h2, _⟩ := OwnN.lend h
  exact ⟨_, .add, h1, h2⟩
theorem pts.leak {b : Nat} {o : Obj} (h : Sat R (pts b o :: Hs) w) : ∃ R' : Cx, R.Ext R' ∧ R'.m b = some o ∧ Sat R' Hs w := by
  obtain ⟨h1, h2⟩ := Sat.lend.1 h
  exact ⟨_, .add, Cx.lent h1, h2⟩
end Go.VC
/- SL, part 15: new rows of so many zeros; elements of any one cell. Condition: bounds on lengths. -/
namespace Go.VC
set_option linter.unusedVariables false
variable {P : Program} {R : Cx} {Hs Rest : List HP} {w : World} {s : Sl} {T : TypeId}
theorem Own.ix {kd : IntKind} {xs : List Int} {S : World → Prop} {Hs' : List HP} {i : Int} (hw : Sat R (Own s T (xs.map (Value.int kd)) :: Hs) w) (hS : ∀ w, S w → Sat R (Own s T (xs.map (Value.int kd)) :: Hs') w) (k : Nat) (hi : i = k) (hk : k < xs.length) {F : Int → Prop} (h : F xs[k]) :
    Rng i s.len (NilP s.a fun a => ∃ t : Int, (At S (a.add i.toNat) [.int kd t]) ∧ F t) := by
  subst hi; exact Own.idx hw hS hk h
end Go.VC

/- SL, part 17: maps whose keys are ints; memory that is only read, several pieces of it lent at once. No condition. -/
namespace Go.VC
set_option linter.unusedVariables false
variable {P : Program} {R R' R'' : Cx} {Hs Rest : List HP} {w : World} {s : Sl} {T : TypeId}
instance : KeyK Int where
  enc := Value.int .i64
  desc := .int .i64
  same a b := by
    show (if IntKind.i64 = IntKind.i64 then some (a == b) else none) = some (a == b)
    rw [if_pos rfl]
  bits a := by
    have : ∀ n, Instr.sameBits n (.int .i64 a) (.int .i64 a) = (IntKind.i64 == IntKind.i64 && a == a) := fun n => by cases n <;> rfl
    rw [this]; simp
  eq a b h := beq_iff_eq.1 h
  check P em K a w h := by
    show (Instr.checkKey em (9999 + 1) K (.int .i64 a)).run P w = _
    unfold Instr.checkKey
    simp [run_underlying h]
theorem Reads.out {xs : List Value} (h : Sat R (Reads s xs :: Hs) w) : ∃ R', R.Ext R' ∧ SlR R'.m s xs ∧ Sat R' Hs w ∧ ∀ Hs' w', Sat R' Hs' w' → Sat R (Reads s xs :: Hs') w' := by
  obtain ⟨x, hd, hs, hw, hx⟩ := Reads.lend h
  exact ⟨R.add x, Cx.Ext.add, hs, hw, fun Hs' w' h => Reads.back hd hx h⟩
end Go.VC
/- SL, part 18: a range over a map of one's own, in whatever order. No condition. -/
namespace Go.VC
set_option linter.unusedVariables false
theorem filter_push {α : Type} {l : List (En α)} {seen : Array Nat} {a b : List (En α)} {x : En α} (hn : (l.map (·.2.2)).Nodup) (h : l.filter (fun e => !seen.contains e.2.2) = a ++ x :: b) : l.filter (fun e => !(seen.push x.2.2).contains e.2.2) = a ++ b := by
  have e1 : l.filter (fun e => !(seen.push x.2.2).contains e.2.2) = (l.filter fun e => !seen.contains e.2.2).filter fun e => !decide (e.2.2 = x.2.2) := by
    rw [List.filter_filter]
    refine List.filter_congr fun y _ => ?_
    rw [Array.contains_push, Bool.not_or, Bool.and_comm]
    congr 1
  rw [e1, h, List.filter_append, List.filter_cons]
  have hnd : ((a ++ x :: b).map (·.2.2)).Nodup := by
    rw [← h]
    exact ((List.filter_sublist.map _).nodup hn)
  rw [List.map_append, List.map_cons, List.nodup_append, List.nodup_cons] at hnd
  rw [if_neg (by simp)]
  rw [List.filter_eq_self.2, List.filter_eq_self.2]
  · intro y hy
    have : ¬ y.2.2 = x.2.2 := fun e => hnd.2.1.1 (by rw [← e]; exact List.mem_map.2 ⟨y, hy, rfl⟩)
    simpa using this
  · intro y hy
    have : ¬ y.2.2 = x.2.2 := fun e => hnd.2.2 _ (List.mem_map.2 ⟨y, hy, rfl⟩) x.2.2 (by simp) e
    simpa using this
def itLeft (r m : Nat) (w : World) : Nat := match w.heap[r]? with
  | some (.mapIter _ _ seen _) => (match w.heap[m]? with
    | some (.map es _) => (leftOf es seen).size
    | _ => 0)
  | _ => 0
section
variable {α : Type} [BEq α] [KeyK α] {P : Program} {R : Cx} {Hs : List HP} {w : World}
def ItAt (r m : Nat) (es left : List (α × Value)) : HP := exs fun l : List (En α) => exs fun c : Nat => exs fun seen : Array Nat =>
  Star [pur (strip l = es ∧ StampsOk l c ∧ strip (l.filter fun e => !seen.contains e.2.2) = left), pts r (.mapIter (some m) c seen c), pts m (.map (l.map mkE).toArray c)]
theorem ItAt.iff {r m : Nat} {es left : List (α × Value)} : Sat R (ItAt r m es left :: Hs) w ↔ ∃ (l : List (En α)) (c : Nat) (seen : Array Nat), (strip l = es ∧ StampsOk l c ∧ strip (l.filter fun e => !seen.contains e.2.2) = left) ∧
    Sat R (pts r (.mapIter (some m) c seen c) :: pts m (.map (l.map (mkE (α := α))).toArray c) :: Hs) w := by
  unfold ItAt
  simp only [Sat.exs]
  constructor
  · rintro ⟨l, c, seen, h⟩
    obtain ⟨h1, h2⟩ := Sat.pur.1 (Sat.star.1 h)
    exact ⟨l, c, seen, h1, h2⟩
  · rintro ⟨l, c, seen, h1, h2⟩
    exact ⟨l, c, seen, Sat.star.2 (Sat.pur.2 ⟨h1, h2⟩)⟩
theorem ItAt.map {r m : Nat} {es left : List (α × Value)} (hw : Sat R (ItAt r m es left :: Hs) w) : Sat R (MapAt m es :: Hs) w := by
  obtain ⟨l, c, seen, ⟨h1, h2, _⟩, hw⟩ := ItAt.iff.1 hw
  exact MapAt.iff.2 ⟨l, c, h1, h2, hw.drop⟩
theorem range_rule {T K E : TypeId} {m : Nat} {es : List (α × Value)} {Q : Option Addr → World → Prop} (hT : P.underlying T = some (.map K E)) (hw : Sat R (MapAt m es :: Hs) w) (k : ∀ r w', Sat R (ItAt r m es es :: Hs) w' → Q (some ⟨r, 0, none⟩) w') :
    ∃ w' : World, ∃ t : Option Addr, ((Instr.range T (.map (some m))).run P w = .ok (.pointer t) w') ∧ Q t w' := by
  obtain ⟨l, c, h1, h2, hw⟩ := MapAt.iff.1 hw
  have hat := hw.at
  refine ⟨w.alloc (.mapIter (some m) c #[] c), some ⟨w.heap.size, 0, none⟩, ?_, k _ _ (ItAt.iff.2 ⟨l, c, #[], ⟨h1, h2, ?_⟩, Sat.alloc _ hw⟩)⟩
  · simp [Instr.range, run_underlying hT, getObj, Sem.run_bind, Sem.run, hat, Result.andThen]
  · rw [show (l.filter fun e => !(#[] : Array Nat).contains e.2.2) = l from List.filter_eq_self.2 (fun x _ => by simp)]
    exact h1
theorem itLeft_eq {r m : Nat} {es left : List (α × Value)} (hw : Sat R (ItAt r m es left :: Hs) w) : itLeft r m w = left.length := by
  obtain ⟨l, c, seen, ⟨h1, h2, h3⟩, hw⟩ := ItAt.iff.1 hw
  have hr := hw.at
  have hm := hw.swap.at
  unfold itLeft
  rw [hr]
  dsimp only
  rw [hm]
  dsimp only
  rw [← h3, ← Array.length_toList]
  unfold leftOf strip
  rw [Array.toList_filter, List.length_map]
  have : ∀ l : List (En α), ((l.map mkE).filter fun e => !seen.contains e.born).length = (l.filter fun e => !seen.contains e.2.2).length := fun l => by
    rw [List.filter_map, List.length_map]
    rfl
  exact this l
theorem next_cases {r m : Nat} {T : TypeId} {es left : List (α × Value)} (hw : Sat R (ItAt r m es left :: Hs) w) :
    (left = [] ∧ (Instr.next (.pointer (some ⟨r, 0, none⟩)) false T).run P w = .ok (.tuple #[.bool false]) w) ∨
    ∃ a k v b w', left = a ++ (k, v) :: b ∧ (Instr.next (.pointer (some ⟨r, 0, none⟩)) false T).run P w = .ok (.tuple #[.bool true, KeyK.enc k, v]) w' ∧ (Instr.entry (.pointer (some ⟨r, 0, none⟩))).run P w' = .ok (.tuple #[KeyK.enc k, v]) w' ∧ Sat R (ItAt r m es (a ++ b) :: Hs) w' := by
  obtain ⟨l, c, seen, ⟨h1, h2, h3⟩, hw⟩ := ItAt.iff.1 hw
  have hr := hw.at
  have hm := hw.swap.at
  rcases run_next_at (P := P) w T r m c c seen (l.map mkE).toArray c hr hm (fun x hx => by
      obtain ⟨e, he, rfl⟩ := List.mem_map.1 (show x ∈ l.map mkE from hx)
      exact h2.1 e he) (Nat.le_refl _) with ⟨h0, hrun⟩ | ⟨e, he, w1, hw1, hrun⟩
  · left
    refine ⟨?_, hrun⟩
    rw [← h3]
    have : (l.filter fun e => !seen.contains e.2.2) = [] := by
      rw [List.filter_eq_nil_iff]
      intro x hx hn
      have hmem : mkE x ∈ (leftOf (l.map mkE).toArray seen).toList := by
        unfold leftOf
        simp only [Array.toList_filter, List.mem_filter, List.mem_map]
        exact ⟨⟨x, hx, rfl⟩, hn⟩
      have : 0 < (leftOf (l.map mkE).toArray seen).toList.length := List.length_pos_of_mem hmem
      rw [Array.length_toList] at this
      omega
    rw [this]; rfl
  · right
    have hx : ∃ x ∈ l, e = mkE x ∧ (!seen.contains x.2.2) = true := by
      unfold leftOf at he
      simp only [Array.toList_filter, List.mem_filter, List.mem_map] at he
      obtain ⟨⟨x, hx, rfl⟩, hn⟩ := he
      exact ⟨x, hx, rfl, hn⟩
    obtain ⟨x, hxl, rfl, hn⟩ := hx
    obtain ⟨a, b, hab⟩ := List.append_of_mem (List.mem_filter.2 ⟨hxl, hn⟩ : x ∈ l.filter fun e => !seen.contains e.2.2)
    have hw2 : Sat R (pts r (.mapIter (some m) c seen c) :: pts m (.map (l.map (mkE (α := α))).toArray c) :: Hs) w1 := by
      rcases hw1 with rfl | rfl
      · exact hw
      · exact hw.drew
    have hw3 := hw2.setPts (.mapIter (some m) c (seen.push x.2.2) c)
    refine ⟨strip a, x.1, x.2.1, strip b, _, ?_, hrun, ?_, ?_⟩
    · rw [← h3, hab]
      unfold strip
      rw [List.map_append, List.map_cons]
    · exact run_entry_at (P := P) _ r m c seen (l.map mkE).toArray c (mkE x) hw3.at hw3.swap.at (show mkE x ∈ l.map mkE from List.mem_map.2 ⟨x, hxl, rfl⟩) (by
        have e : ((l.map mkE).map fun e : MapEntry => e.born) = l.map (·.2.2) := by rw [List.map_map]; rfl
        show ((l.map mkE).map fun e : MapEntry => e.born).Nodup
        rw [e]; exact h2.2)
    · refine ItAt.iff.2 ⟨l, c, seen.push x.2.2, ⟨h1, h2, ?_⟩, hw3⟩
      rw [filter_push h2.2 hab]
      unfold strip
      rw [List.map_append]
end
end Go.VC
/- What the session's laws want of other chapters: reference 02, numbers, readers. Condition: bounds on lengths. -/
namespace Go.Proofs.YtadnmnkbgjippaaGreatDoor
set_option linter.unusedVariables false
open Go Go.VC
variable {R : Cx} {Hs Rest : List HP} {w : World}
abbrev intsI (l : List Int) : List Value := l.map (Value.int .i64)
theorem idxF_spec {s : Sl} {l : List Int} {f : Value} {p : Int → Bool} (hs : RoI R s l) (hf : ∀ x w, Sat R Hs w → CalW Tryz.prog cl f [.int .i64 x] w fun e w' => e = .returned (.bool (p x)) ∧ Sat R Hs w') (hw : Sat R Hs w) :
    Gets Tryz.prog 61 #[.slice s.a s.len s.cap, f] w fun v w' => (∃ n : Int, v = .int .i64 n ∧ (l.any p = true ↔ 0 ≤ n)) ∧ Sat R Hs w' := by
  have hlen := hs.len
  have hbd := hs.bound
  apply call61
  refine ⟨fun i w => ∃ j : Nat, i = j ∧ j ≤ l.length ∧ (l.take j).any p = false ∧ Sat R Hs w, fun i _ => l.length - i.toNat, ⟨0, rfl, by omega, by simp, hw⟩, ?_⟩
  clear hw
  rintro _ _ w ⟨j, rfl, hj, hn, hw⟩
  refine Br.d (fun h => ?_) (fun h => ?_)
  · have hj2 : j < l.length := by omega
    refine hs.idx (eqS hw) hj2 ?_
    refine (hf l[j] _ hw).mono ?_
    rintro _ w ⟨rfl, hw⟩
    refine ⟨_, rfl, Br.mk (fun h => ⟨⟨j, rfl, ⟨fun _ => by omega, fun _ => List.any_eq_true.2 ⟨_, List.getElem_mem _, h⟩⟩⟩, hw⟩) (fun h => ?_)⟩
    rw [wrap64 (by omega) (by omega)]
    refine ⟨⟨j + 1, by omega, by omega, ?_, hw⟩, by dsimp only; omega⟩
    rw [List.take_add_one, List.getElem?_eq_getElem hj2, List.any_append, hn]
    simp [h]
  · refine ⟨⟨-1, rfl, ⟨fun h2 => ?_, fun h2 => by omega⟩⟩, hw⟩
    rw [List.take_of_length_le (by omega)] at hn
    rw [hn] at h2; cases h2
theorem contF_spec {s : Sl} {l : List Int} {f : Value} {p : Int → Bool} (hs : RoI R s l) (hf : ∀ x w, Sat R Hs w → CalW Tryz.prog cl f [.int .i64 x] w fun e w' => e = .returned (.bool (p x)) ∧ Sat R Hs w') (hw : Sat R Hs w) :
    Gets Tryz.prog 40 #[.slice s.a s.len s.cap, f] w fun v w' => v = .bool (l.any p) ∧ Sat R Hs w' := by
  apply call40
  refine (idxF_spec hs hf hw).use ?_
  rintro _ w ⟨⟨n, rfl, h⟩, hw⟩
  refine ⟨n, rfl, ?_, hw⟩
  congr 1
  rw [Bool.eq_iff_iff, decide_eq_true_iff]
  exact h.symm
def numsB (l : List Int) : List Int := (l.map fun x => numB x.toNat).flatten
theorem numsB_len : ∀ {l : List Int}, (∀ x ∈ l, 0 ≤ x ∧ x < 18446744073709551616) → (numsB l).length ≤ 9 * l.length
  | [], _ => by simp [numsB]
  | x :: l, h => by
    have h1 := h x (List.mem_cons_self ..)
    have := numB_len (n := x.toNat) (by omega)
    have h2 := numsB_len (l := l) fun y hy => h y (List.mem_cons_of_mem _ hy)
    unfold numsB at h2 ⊢
    rw [List.map_cons, List.flatten_cons, List.length_append, List.length_cons]
    omega
theorem numsB_bd : ∀ {l : List Int}, (∀ x ∈ l, 0 ≤ x ∧ x < 18446744073709551616) → ∀ y ∈ numsB l, 0 ≤ y ∧ y < 256
  | [], _ => by simp [numsB]
  | x :: l, h => fun y hy => by
    have h1 := h x (List.mem_cons_self ..)
    unfold numsB at hy
    rw [List.map_cons, List.flatten_cons, List.mem_append] at hy
    rcases hy with hy | hy
    · exact numB_bd (n := x.toNat) (by omega) y hy
    · exact numsB_bd (fun y hy => h y (List.mem_cons_of_mem _ hy)) y hy
theorem numsB_app (a b : List Int) : numsB (a ++ b) = numsB a ++ numsB b := by simp [numsB]
theorem numsB_one (x : Int) (l : List Int) : numsB (x :: l) = numsB [x] ++ numsB l := by rw [show x :: l = [x] ++ l from rfl, numsB_app]
theorem rdNum_code {n : Nat} {most : Int} {rest : List Int} (h : n < 18446744073709551616) (hm : (n : Int) ≤ most) : rdNum most ⟨numB n ++ rest, false⟩ = ((n : Int), ⟨rest, false⟩) := by
  unfold rdNum
  rw [if_neg (by simp)]
  dsimp only
  rw [parse_num h]
  dsimp only
  rw [if_pos ⟨rfl, hm⟩, List.drop_left]
theorem rdNum_nums {x most : Int} {rest : List Int} (h0 : 0 ≤ x) (h1 : x ≤ most) (h2 : x < 18446744073709551616) : rdNum most ⟨numsB [x] ++ rest, false⟩ = (x, ⟨rest, false⟩) := by
  obtain ⟨n, rfl⟩ := Int.eq_ofNat_of_zero_le h0
  have e : numsB [(n : Int)] = numB n := by simp [numsB]
  rw [e]
  exact rdNum_code (by omega) h1
def Bytes (l : List Int) : Prop := ∀ x ∈ l, 0 ≤ x ∧ x < 256
theorem rdText_code {d rest : List Int} {most : Int} (hl : d.length < 1000000) (hm : (d.length : Int) ≤ most) : rdText most ⟨textB d ++ rest, false⟩ = (d, ⟨rest, false⟩) := by
  unfold rdText textB
  rw [if_neg (by simp)]
  dsimp only
  rw [List.append_assoc, parse_num (by omega)]
  dsimp only
  have hn := numB_len (n := d.length) (by omega)
  rw [if_pos ⟨rfl, by omega, hm, by simp only [List.length_append]; omega⟩, List.drop_left, Int.toNat_natCast, List.take_left, ← List.drop_drop, List.drop_left, List.drop_left]
def nn (n : Int) : Int := max n 0
theorem nn_id {n : Int} (h : 0 ≤ n) : nn n = n := by unfold nn; omega
theorem textB_len {d : List Int} (h : d.length < 1000000) : (textB d).length ≤ d.length + 9 := by
  have := numB_len (n := d.length) (by omega)
  unfold textB
  rw [List.length_append]
  omega
theorem nn_bd {n : Int} (h : n < 9223372036854775808) : 0 ≤ nn n ∧ nn n < 9223372036854775808 := by unfold nn; omega
theorem nn_if (n : Int) : (if 0 > n then 0 else n) = nn n := by unfold nn; split <;> omega
theorem _root_.Go.VC.Sat.allTru {Hs : List HP} : ∀ {R : Cx}, Sat R Hs w → Sat R [VC.tru] w := by
  induction Hs with
  | nil => exact fun h => h.tru
  | cons A Hs ih => exact fun h => Sat.absorb (h.cons fun _ h => ih h)
theorem _root_.Go.VC.Sat.restTru2 {A : HP} (h : Sat R (A :: Hs) w) : Sat R [A, VC.tru] w := h.cons fun _ h => h.allTru
theorem _root_.Go.VC.MapAt.len {P : Program} {α : Type} [BEq α] [KeyK α] {m : Nat} {es : List (α × Value)} {T ty : TypeId} (hT : P.underlying T = some (.map (P.mapKeyOf T) (P.mapElemOf T))) (hw : Sat R (MapAt m es :: Hs) w) :
    (Builtin.len_ #[T] ty #[.map (some m)]).run P w = .ok (.int .i64 es.length) w := by
  obtain ⟨l, c, hs, hst, hp⟩ := MapAt.iff.1 hw
  rw [run_len_map w T ty m _ c hT hp.at]
  subst hs
  simp [goInt, strip]
theorem app8 {s t : Sl} {a b : List Int} {K : Sl → World → Prop} (hl : a.length + b.length ≤ 1099511627776) (hw : Sat R (Own t 5 (b8 b) :: Own s 5 (b8 a) :: Hs) w)
    (k : ∀ s2 w', Sat R (Own s2 5 (b8 (a ++ b)) :: Hs) w' → K s2 w') :
    ∃ w_1 : World, ∃ t2 : Sl, ((Builtin.append_ #[ 22, 22 ] 22 #[.slice s.a s.len s.cap, .slice t.a t.len t.cap]).run Tryz.prog w = .ok (.slice t2.a t2.len t2.cap) w_1) ∧ K t2 w_1 :=
  appendOO elB8 (s := s) (n := 1099511627776) Tryz.underlying22 hw.swap (by omega) (by omega) (by omega) fun s2 w hw => k s2 w (hw.swap.drop)
end Go.Proofs.YtadnmnkbgjippaaGreatDoor
/- Requests and answers of sessions as bytes, plainly. No condition. -/
namespace Go.Proofs.YtadnmnkbgjippaaGreatDoor
set_option linter.unusedVariables false
open Go Go.VC
open Classical
abbrev mI : Int := 1099511627776
structure Rq where
  kind : Int
  client : Int
  seq : Int
  token : Int
  cmd : List Int
def inI (n : Int) : Prop := 0 ≤ n ∧ n ≤ 1099511627776
structure RightQ (q : Rq) : Prop where
  client : inI q.client
  seq : inI q.seq
  token : inI q.token
  cmd : q.cmd.length ≤ 4000
  kind : (q.kind = 1 ∧ q.client = 0 ∧ q.seq = 0 ∧ q.cmd.length = 0) ∨ (q.kind = 2 ∧ q.token = 0) ∨ (q.kind = 3 ∧ q.token = 0 ∧ q.seq = 0 ∧ q.cmd.length = 0) ∨ (q.kind = 4 ∧ q.client = 0 ∧ q.seq = 0 ∧ q.token = 0)
def rqB (q : Rq) : List Int := numsB [q.kind, q.client, q.seq, q.token] ++ textB q.cmd
def rqRd (m : Int) (r : Rd) : Rq × Rd :=
  let k := rdNum m r
  let c := rdNum mI k.2
  let s := rdNum mI c.2
  let t := rdNum mI s.2
  let d := rdText 4000 t.2
  (⟨k.1, c.1, s.1, t.1, d.1⟩, d.2)
def zeroQ : Rq := ⟨0, 0, 0, 0, []⟩
noncomputable def rqDec (m : Int) (bs : List Int) : Rq × Int := if rdWhole (rqRd m ⟨bs, false⟩).2 = true ∧ RightQ (rqRd m ⟨bs, false⟩).1 then ((rqRd m ⟨bs, false⟩).1, 0) else (zeroQ, 6)
noncomputable def encQ (q : Rq) : List Int × Int := if RightQ q then (rqB q, 0) else ([], 1)
theorem RightQ.k4 {q : Rq} (h : RightQ q) : 1 ≤ q.kind ∧ q.kind ≤ 4 := by
  have := h.kind
  omega
theorem rqB_len {q : Rq} (h : RightQ q) : (rqB q).length ≤ 5000 := by
  have h1 := h.k4
  obtain ⟨a1, a2⟩ := h.client
  obtain ⟨a3, a4⟩ := h.seq
  obtain ⟨a5, a6⟩ := h.token
  have h2 := h.cmd
  unfold rqB
  have l1 := numsB_len (l := [q.kind, q.client, q.seq, q.token]) fun x hx => by
    simp only [List.mem_cons, List.not_mem_nil, or_false] at hx
    rcases hx with rfl | rfl | rfl | rfl <;> omega
  have l2 := textB_len (d := q.cmd) (by omega)
  rw [List.length_append]
  simp only [List.length_cons, List.length_nil] at l1
  omega
theorem numsB4 (a b c d : Int) (rest : List Int) : numsB [a, b, c, d] ++ rest = numsB [a] ++ (numsB [b] ++ (numsB [c] ++ (numsB [d] ++ rest))) := by
  rw [show numsB [a, b, c, d] = numsB [a] ++ (numsB [b] ++ (numsB [c] ++ numsB [d])) by rw [numsB_one a, numsB_one b, numsB_one c]]
  simp only [List.append_assoc]
theorem rq_back {q : Rq} (h : RightQ q) : rqRd mI ⟨rqB q, false⟩ = (q, ⟨[], false⟩) := by
  have h1 := h.k4
  obtain ⟨a1, a2⟩ := h.client
  obtain ⟨a3, a4⟩ := h.seq
  obtain ⟨a5, a6⟩ := h.token
  have h2 := h.cmd
  unfold rqRd rqB
  rw [numsB4]
  rw [rdNum_nums (by omega) (by show q.kind ≤ 1099511627776; omega) (by omega)]
  dsimp only
  rw [rdNum_nums (by omega) (by show q.client ≤ 1099511627776; omega) (by omega)]
  dsimp only
  rw [rdNum_nums (by omega) (by show q.seq ≤ 1099511627776; omega) (by omega)]
  dsimp only
  rw [rdNum_nums (by omega) (by show q.token ≤ 1099511627776; omega) (by omega)]
  dsimp only
  have := rdText_code (d := q.cmd) (rest := []) (most := 4000) (by omega) (by omega)
  rw [List.append_nil] at this
  rw [this]
theorem rqDec_back {q : Rq} (h : RightQ q) : rqDec mI (rqB q) = (q, 0) := by
  unfold rqDec
  rw [rq_back h, if_pos ⟨rfl, h⟩]
structure Told where
  code : Int
  client : Int
  seq : Int
  reply : List Int
def zeroT : Told := ⟨0, 0, 0, []⟩
end Go.Proofs.YtadnmnkbgjippaaGreatDoor
/- The formulas of functions of this seat's translation, printed by a program of mine off the translation; each is proved equal to 'fnF' of the function's body, so it is enough for the call. No condition. -/
namespace Go.Proofs.YtadnmnkbgjippaaGreatDoor
open Go Go.VC
set_option linter.unusedVariables false
set_option maxRecDepth 10000
def B33  (K : Value → World → Prop) (w : World) : Prop :=
  New (.map #[] 0) (fun b_t1 w_1 =>
  New (.map #[] 0) (fun b_t2 w_2 =>
  New (.cells #[.int .i64 0, .int .i64 1, .map ((some b_t1)), .map ((some b_t2))] 91 (0, 0)) (fun b_t4 w_3 =>
  K (.pointer ((some ⟨b_t4, 0, none⟩))) w_3) w_2) w_1) w
def sk33 : Sk := .leaf
theorem ok33 : fnOk Tryz.prog Tryz.f33.ntmps Tryz.f33 sk33 = true := by kernel_rfl
theorem eq33  (K : Value → World → Prop) (w : World) : fnF Tryz.prog cl Tryz.f33 sk33 [] K w = B33  K w := by kernel_rfl
theorem call33  (K : Value → World → Prop) (w : World) (h : B33  K w) : Gets Tryz.prog 33 #[] w K :=
  calls_of (sk := sk33) cl_ok mixed Tryz.func33 ok33 (args := []) (Nat.le_of_ble_eq_true (by kernel_rfl)) (by rw [eq33]; exact h)
def B20 (a0_0 : Int) (a0_1 : Int) (a0_2 : Int) (a0_3 : Int) (a0_4 : Sl) (K : Value → World → Prop) (w : World) : Prop :=
  New (.cells #[.int .i64 a0_0, .int .i64 a0_1, .int .i64 a0_2, .int .i64 a0_3, .slice a0_4.a a0_4.len a0_4.cap] 24 (0, 0)) (fun b_a1 w_1 =>
  ∃ (J : World → Prop), (∃ t6 : Int, (At (fun w' => w' = w_1) ⟨b_a1, 0 + 1, none⟩ [.int .i64 t6]) ∧
    ∃ t8 : Int, (At (fun w' => w' = w_1) ⟨b_a1, 0 + 2, none⟩ [.int .i64 t8]) ∧
    ∃ t10 : Int, (At (fun w' => w' = w_1) ⟨b_a1, 0 + 3, none⟩ [.int .i64 t10]) ∧
    New (.cells #[.int .i64 t6, .int .i64 t8, .int .i64 t10] 3 (0, 0)) (fun b_t11 w_2 =>
    Calls Tryz.prog 40 #[.slice ((some ⟨b_t11, 0, none⟩)) 3 3, .func (.func 39) #[] #[]] w_2 fun e w_3 =>
    ∃ t13 : Bool, (e = .returned (.bool t13)) ∧
    Br t13
     (K (.bool false) w_3)
     (∃ t16 : Sl, (At (fun w' => w' = w_3) ⟨b_a1, 0 + 4, none⟩ [.slice t16.a t16.len t16.cap]) ∧
      Br (decide ((↑t16.len : Int) > 4000))
       (K (.bool false) w_3)
       (J  w_3))) w_1) ∧
  ∀ (z : Env)  (w_4 : World), J  w_4 →
  ∃ (J_1 : Bool → World → Prop), (∃ t21 : Int, (At (fun w' => w' = w_4) ⟨b_a1, 0 + 2, none⟩ [.int .i64 t21]) ∧
    Br (t21 == 0)
     (∃ t25 : Sl, (At (fun w' => w' = w_4) ⟨b_a1, 0 + 4, none⟩ [.slice t25.a t25.len t25.cap]) ∧
      J_1 ((↑t25.len : Int) == 0) w_4)
     (J_1 false w_4)) ∧
  ∀ (z_1 : Env) (bare4 : Bool) (w_5 : World), J_1 bare4 w_5 →
  ∃ t30 : Int, (At (fun w' => w' = w_5) ⟨b_a1, 0, none⟩ [.int .i64 t30]) ∧
  Br (t30 == 1)
   (∃ t34 : Int, (At (fun w' => w' = w_5) ⟨b_a1, 0 + 1, none⟩ [.int .i64 t34]) ∧
    Br (t34 == 0)
     (K (.bool bare4) w_5)
     (K (.bool false) w_5))
   (Br (t30 == 2)
     (∃ t42 : Int, (At (fun w' => w' = w_5) ⟨b_a1, 0 + 3, none⟩ [.int .i64 t42]) ∧
      K (.bool (t42 == 0)) w_5)
     (Br (t30 == 3)
       (∃ t47 : Int, (At (fun w' => w' = w_5) ⟨b_a1, 0 + 3, none⟩ [.int .i64 t47]) ∧
        Br (t47 == 0)
         (K (.bool bare4) w_5)
         (K (.bool false) w_5))
       (Br (t30 == 4)
         (∃ t55 : Int, (At (fun w' => w' = w_5) ⟨b_a1, 0 + 1, none⟩ [.int .i64 t55]) ∧
          Br (t55 == 0)
           (∃ t59 : Int, (At (fun w' => w' = w_5) ⟨b_a1, 0 + 2, none⟩ [.int .i64 t59]) ∧
            Br (t59 == 0)
             (∃ t64 : Int, (At (fun w' => w' = w_5) ⟨b_a1, 0 + 3, none⟩ [.int .i64 t64]) ∧
              K (.bool (t64 == 0)) w_5)
             (K (.bool false) w_5))
           (K (.bool false) w_5))
         (K (.bool false) w_5))))) w
def sk20 : Sk := (.seq .leaf (.seq .leaf (.cut [] [] [2, 5, 6, 7, 8, 9, 10, 11, 12, 13, 14, 15, 16, 17, 18, 19] .leaf (.cut [4] [.bool] [4, 20, 21, 22, 23, 24, 25, 26, 27, 28] .leaf .leaf))))
theorem ok20 : fnOk Tryz.prog Tryz.f20.ntmps Tryz.f20 sk20 = true := by kernel_rfl
theorem eq20 (a0_0 : Int) (a0_1 : Int) (a0_2 : Int) (a0_3 : Int) (a0_4 : Sl) (K : Value → World → Prop) (w : World) : fnF Tryz.prog cl Tryz.f20 sk20 [.agg #[.int .i64 a0_0, .int .i64 a0_1, .int .i64 a0_2, .int .i64 a0_3, .slice a0_4.a a0_4.len a0_4.cap]] K w = B20 a0_0 a0_1 a0_2 a0_3 a0_4 K w := by kernel_rfl
theorem call20 (a0_0 : Int) (a0_1 : Int) (a0_2 : Int) (a0_3 : Int) (a0_4 : Sl) (K : Value → World → Prop) (w : World) (h : B20 a0_0 a0_1 a0_2 a0_3 a0_4 K w) : Gets Tryz.prog 20 #[.agg #[.int .i64 a0_0, .int .i64 a0_1, .int .i64 a0_2, .int .i64 a0_3, .slice a0_4.a a0_4.len a0_4.cap]] w K :=
  calls_of (sk := sk20) cl_ok mixed Tryz.func20 ok20 (args := [.agg #[.int .i64 a0_0, .int .i64 a0_1, .int .i64 a0_2, .int .i64 a0_3, .slice a0_4.a a0_4.len a0_4.cap]]) (Nat.le_of_ble_eq_true (by kernel_rfl)) (by rw [eq20]; exact h)
def B39 (n0 : Int) (K : Value → World → Prop) (w : World) : Prop :=
  Br (decide (n0 < 0))
   (K (.bool true) w)
   (K (.bool (decide (n0 > 1099511627776))) w)
def sk39 : Sk := .leaf
theorem ok39 : fnOk Tryz.prog Tryz.f39.ntmps Tryz.f39 sk39 = true := by kernel_rfl
theorem eq39 (n0 : Int) (K : Value → World → Prop) (w : World) : fnF Tryz.prog cl Tryz.f39 sk39 [.int .i64 n0] K w = B39 n0 K w := by kernel_rfl
theorem call39 (n0 : Int) (K : Value → World → Prop) (w : World) (h : B39 n0 K w) : Gets Tryz.prog 39 #[.int .i64 n0] w K :=
  calls_of (sk := sk39) cl_ok mixed Tryz.func39 ok39 (args := [.int .i64 n0]) (Nat.le_of_ble_eq_true (by kernel_rfl)) (by rw [eq39]; exact h)
def B21 (l0 : Sl) (K : Value → World → Prop) (w : World) : Prop :=
  ∃ (I : Sl → Int → World → Prop) (μ : Sl → Int → World → Nat), (I ⟨none, 0, 0⟩ 0 w) ∧ ∀ (z : Env) (out3 : Sl) (t8 : Int) (w_1 : World), I out3 t8 w_1 →
  Br (decide (t8 < (↑l0.len : Int)))
   (Rng t8 l0.len (NilP l0.a fun a_t10 =>
    ∃ t11 : Int, (At (fun w' => w' = w_1) (Addr.add a_t10 t8.toNat) [.int .i64 t11]) ∧
    Calls Tryz.prog 41 #[.int .u64 (IntKind.u64.wrap (if 0 > t11 then 0 else t11))] w_1 fun e w_2 =>
    ∃ t16 : Sl, (e = .returned (.slice t16.a t16.len t16.cap)) ∧
    ∃ w_3 : World, ∃ t17 : Sl, ((Builtin.append_ #[22, 22] 22 #[.slice out3.a out3.len out3.cap, .slice t16.a t16.len t16.cap]).run Tryz.prog w_2 = .ok (.slice t17.a t17.len t17.cap) w_3) ∧
    (I t17 (IntKind.i64.wrap (t8 + 1)) w_3) ∧ μ t17 (IntKind.i64.wrap (t8 + 1)) w_3 < μ out3 t8 w_1))
   (K (.slice out3.a out3.len out3.cap) w_1)
def sk21 : Sk := (.seq .leaf (.seq .leaf (.seq (.seq .leaf (.block (.loop [3, 8] [.sl, (.int .i64)] [3, 5, 8, 9, 10, 11, 12, 13, 14, 15, 16, 17, 18] .leaf))) .leaf)))
theorem ok21 : fnOk Tryz.prog Tryz.f21.ntmps Tryz.f21 sk21 = true := by kernel_rfl
theorem eq21 (l0 : Sl) (K : Value → World → Prop) (w : World) : fnF Tryz.prog cl Tryz.f21 sk21 [.slice l0.a l0.len l0.cap] K w = B21 l0 K w := by kernel_rfl
theorem call21 (l0 : Sl) (K : Value → World → Prop) (w : World) (h : B21 l0 K w) : Gets Tryz.prog 21 #[.slice l0.a l0.len l0.cap] w K :=
  calls_of (sk := sk21) cl_ok mixed Tryz.func21 ok21 (args := [.slice l0.a l0.len l0.cap]) (Nat.le_of_ble_eq_true (by kernel_rfl)) (by rw [eq21]; exact h)
def B7 (a0_0 : Int) (a0_1 : Int) (a0_2 : Int) (a0_3 : Int) (a0_4 : Sl) (K : Value → World → Prop) (w : World) : Prop :=
  New (.cells #[.int .i64 a0_0, .int .i64 a0_1, .int .i64 a0_2, .int .i64 a0_3, .slice a0_4.a a0_4.len a0_4.cap] 24 (0, 0)) (fun b_a1 w_1 =>
  ∃ t4 : Int, ∃ t4_1 : Int, ∃ t4_2 : Int, ∃ t4_3 : Int, ∃ t4_4 : Sl, (At (fun w' => w' = w_1) ⟨b_a1, 0, none⟩ [.int .i64 t4, .int .i64 t4_1, .int .i64 t4_2, .int .i64 t4_3, .slice t4_4.a t4_4.len t4_4.cap]) ∧
  Calls Tryz.prog 20 #[.agg #[.int .i64 t4, .int .i64 t4_1, .int .i64 t4_2, .int .i64 t4_3, .slice t4_4.a t4_4.len t4_4.cap]] w_1 fun e w_2 =>
  ∃ t5 : Bool, (e = .returned (.bool t5)) ∧
  Br (!t5)
   (K (.tuple #[.slice none 0 0, .int .i64 1]) w_2)
   (Drw w_2 fun S w_3 =>
    ∃ t8 : Int, (At S ⟨b_a1, 0, none⟩ [.int .i64 t8]) ∧
    ∃ t10 : Int, (At S ⟨b_a1, 0 + 1, none⟩ [.int .i64 t10]) ∧
    ∃ t12 : Int, (At S ⟨b_a1, 0 + 2, none⟩ [.int .i64 t12]) ∧
    ∃ t14 : Int, (At S ⟨b_a1, 0 + 3, none⟩ [.int .i64 t14]) ∧
    ∃ t18 : Sl, (At S ⟨b_a1, 0 + 4, none⟩ [.slice t18.a t18.len t18.cap]) ∧
    New (.cells #[.int .i64 t8, .int .i64 t10, .int .i64 t12, .int .i64 t14] 3 (0, 0)) (fun b_t15 w_4 =>
    (S w_4) ∧
    Calls Tryz.prog 21 #[.slice ((some ⟨b_t15, 0, none⟩)) 4 4] w_4 fun e_1 w_5 =>
    ∃ t16 : Sl, (e_1 = .returned (.slice t16.a t16.len t16.cap)) ∧
    (S w_5) ∧
    Calls Tryz.prog 22 #[.slice t18.a t18.len t18.cap] w_5 fun e_2 w_6 =>
    ∃ t19 : Sl, (e_2 = .returned (.slice t19.a t19.len t19.cap)) ∧
    (S w_6) ∧
    ∃ w_7 : World, ∃ t20 : Sl, ((Builtin.append_ #[22, 22] 22 #[.slice t16.a t16.len t16.cap, .slice t19.a t19.len t19.cap]).run Tryz.prog w_6 = .ok (.slice t20.a t20.len t20.cap) w_7) ∧
    (S w_7) ∧
    K (.tuple #[.slice t20.a t20.len t20.cap, .int .i64 0]) w_7) w_3)) w
def sk7 : Sk := .leaf
theorem ok7 : fnOk Tryz.prog Tryz.f7.ntmps Tryz.f7 sk7 = true := by kernel_rfl
theorem eq7 (a0_0 : Int) (a0_1 : Int) (a0_2 : Int) (a0_3 : Int) (a0_4 : Sl) (K : Value → World → Prop) (w : World) : fnF Tryz.prog cl Tryz.f7 sk7 [.agg #[.int .i64 a0_0, .int .i64 a0_1, .int .i64 a0_2, .int .i64 a0_3, .slice a0_4.a a0_4.len a0_4.cap]] K w = B7 a0_0 a0_1 a0_2 a0_3 a0_4 K w := by kernel_rfl
theorem call7 (a0_0 : Int) (a0_1 : Int) (a0_2 : Int) (a0_3 : Int) (a0_4 : Sl) (K : Value → World → Prop) (w : World) (h : B7 a0_0 a0_1 a0_2 a0_3 a0_4 K w) : Gets Tryz.prog 7 #[.agg #[.int .i64 a0_0, .int .i64 a0_1, .int .i64 a0_2, .int .i64 a0_3, .slice a0_4.a a0_4.len a0_4.cap]] w K :=
  calls_of (sk := sk7) cl_ok mixed Tryz.func7 ok7 (args := [.agg #[.int .i64 a0_0, .int .i64 a0_1, .int .i64 a0_2, .int .i64 a0_3, .slice a0_4.a a0_4.len a0_4.cap]]) (Nat.le_of_ble_eq_true (by kernel_rfl)) (by rw [eq7]; exact h)
def B27 (r0 : Option Addr) (K : Value → World → Prop) (w : World) : Prop :=
  Calls Tryz.prog 43 #[.pointer r0, .int .u64 1099511627776] w fun e w_1 =>
  ∃ t4 : Int, (e = .returned (.int .u64 t4)) ∧
  K (.int .i64 (IntKind.i64.wrap t4)) w_1
def sk27 : Sk := .leaf
theorem ok27 : fnOk Tryz.prog Tryz.f27.ntmps Tryz.f27 sk27 = true := by kernel_rfl
theorem eq27 (r0 : Option Addr) (K : Value → World → Prop) (w : World) : fnF Tryz.prog cl Tryz.f27 sk27 [.pointer r0] K w = B27 r0 K w := by kernel_rfl
theorem call27 (r0 : Option Addr) (K : Value → World → Prop) (w : World) (h : B27 r0 K w) : Gets Tryz.prog 27 #[.pointer r0] w K :=
  calls_of (sk := sk27) cl_ok mixed Tryz.func27 ok27 (args := [.pointer r0]) (Nat.le_of_ble_eq_true (by kernel_rfl)) (by rw [eq27]; exact h)
def B9 (b0 : Sl) (K : Value → World → Prop) (w : World) : Prop :=
  New (.cells #[.int .i64 0, .int .i64 0, .int .i64 0, .int .i64 0, .slice none 0 0] 24 (0, 0)) (fun b_t2 w_1 =>
  Calls Tryz.prog 26 #[.slice b0.a b0.len b0.cap] w_1 fun e w_2 =>
  ∃ t7 : Option Addr, (e = .returned (.pointer t7)) ∧
  Calls Tryz.prog 27 #[.pointer t7] w_2 fun e_1 w_3 =>
  ∃ t9 : Int, (e_1 = .returned (.int .i64 t9)) ∧
  Calls Tryz.prog 27 #[.pointer t7] w_3 fun e_2 w_4 =>
  ∃ t11 : Int, (e_2 = .returned (.int .i64 t11)) ∧
  Calls Tryz.prog 27 #[.pointer t7] w_4 fun e_3 w_5 =>
  ∃ t13 : Int, (e_3 = .returned (.int .i64 t13)) ∧
  Calls Tryz.prog 27 #[.pointer t7] w_5 fun e_4 w_6 =>
  ∃ t15 : Int, (e_4 = .returned (.int .i64 t15)) ∧
  New (.cells #[.int .i64 0, .int .i64 0, .int .i64 0, .int .i64 0, .slice none 0 0] 24 (0, 0)) (fun b_a5 w_7 =>
  ∃ w_8 : World, ((Instr.storeAt 24 (.pointer ((some ⟨b_a5, 0, none⟩))) (.agg #[.int .i64 t9, .int .i64 t11, .int .i64 t13, .int .i64 t15, .slice none 0 0])).run Tryz.prog w_7 = .ok () w_8) ∧
  Calls Tryz.prog 28 #[.pointer t7, .int .i64 4000] w_8 fun e_5 w_9 =>
  ∃ t18 : Sl, (e_5 = .returned (.slice t18.a t18.len t18.cap)) ∧
  ∃ w_10 : World, ((Instr.storeAt 22 (.pointer ((some ⟨b_a5, 0 + 4, none⟩))) (.slice t18.a t18.len t18.cap)).run Tryz.prog w_9 = .ok () w_10) ∧
  Calls Tryz.prog 29 #[.pointer t7] w_10 fun e_6 w_11 =>
  ∃ t21 : Bool, (e_6 = .returned (.bool t21)) ∧
  Br (!t21)
   (∃ w_12 : World, ((Instr.storeAt 24 (.pointer ((some ⟨b_t2, 0, none⟩))) (.agg #[.int .i64 0, .int .i64 0, .int .i64 0, .int .i64 0, .slice none 0 0])).run Tryz.prog w_11 = .ok () w_12) ∧
    ∃ t3 : Int, ∃ t3_1 : Int, ∃ t3_2 : Int, ∃ t3_3 : Int, ∃ t3_4 : Sl, (At (fun w' => w' = w_12) ⟨b_t2, 0, none⟩ [.int .i64 t3, .int .i64 t3_1, .int .i64 t3_2, .int .i64 t3_3, .slice t3_4.a t3_4.len t3_4.cap]) ∧
    K (.tuple #[.agg #[.int .i64 t3, .int .i64 t3_1, .int .i64 t3_2, .int .i64 t3_3, .slice t3_4.a t3_4.len t3_4.cap], .int .i64 6]) w_12)
   (∃ t24 : Int, ∃ t24_1 : Int, ∃ t24_2 : Int, ∃ t24_3 : Int, ∃ t24_4 : Sl, (At (fun w' => w' = w_11) ⟨b_a5, 0, none⟩ [.int .i64 t24, .int .i64 t24_1, .int .i64 t24_2, .int .i64 t24_3, .slice t24_4.a t24_4.len t24_4.cap]) ∧
    Calls Tryz.prog 20 #[.agg #[.int .i64 t24, .int .i64 t24_1, .int .i64 t24_2, .int .i64 t24_3, .slice t24_4.a t24_4.len t24_4.cap]] w_11 fun e_7 w_13 =>
    ∃ t25 : Bool, (e_7 = .returned (.bool t25)) ∧
    Br (!t25)
     (∃ w_14 : World, ((Instr.storeAt 24 (.pointer ((some ⟨b_t2, 0, none⟩))) (.agg #[.int .i64 0, .int .i64 0, .int .i64 0, .int .i64 0, .slice none 0 0])).run Tryz.prog w_13 = .ok () w_14) ∧
      ∃ t3_5 : Int, ∃ t3_6 : Int, ∃ t3_7 : Int, ∃ t3_8 : Int, ∃ t3_9 : Sl, (At (fun w' => w' = w_14) ⟨b_t2, 0, none⟩ [.int .i64 t3_5, .int .i64 t3_6, .int .i64 t3_7, .int .i64 t3_8, .slice t3_9.a t3_9.len t3_9.cap]) ∧
      K (.tuple #[.agg #[.int .i64 t3_5, .int .i64 t3_6, .int .i64 t3_7, .int .i64 t3_8, .slice t3_9.a t3_9.len t3_9.cap], .int .i64 6]) w_14)
     (∃ t29 : Int, ∃ t29_1 : Int, ∃ t29_2 : Int, ∃ t29_3 : Int, ∃ t29_4 : Sl, (At (fun w' => w' = w_13) ⟨b_a5, 0, none⟩ [.int .i64 t29, .int .i64 t29_1, .int .i64 t29_2, .int .i64 t29_3, .slice t29_4.a t29_4.len t29_4.cap]) ∧
      ∃ w_15 : World, ((Instr.storeAt 24 (.pointer ((some ⟨b_t2, 0, none⟩))) (.agg #[.int .i64 t29, .int .i64 t29_1, .int .i64 t29_2, .int .i64 t29_3, .slice t29_4.a t29_4.len t29_4.cap])).run Tryz.prog w_13 = .ok () w_15) ∧
      ∃ t3_10 : Int, ∃ t3_11 : Int, ∃ t3_12 : Int, ∃ t3_13 : Int, ∃ t3_14 : Sl, (At (fun w' => w' = w_15) ⟨b_t2, 0, none⟩ [.int .i64 t3_10, .int .i64 t3_11, .int .i64 t3_12, .int .i64 t3_13, .slice t3_14.a t3_14.len t3_14.cap]) ∧
      K (.tuple #[.agg #[.int .i64 t3_10, .int .i64 t3_11, .int .i64 t3_12, .int .i64 t3_13, .slice t3_14.a t3_14.len t3_14.cap], .int .i64 0]) w_15))) w_6) w
def sk9 : Sk := .leaf
theorem ok9 : fnOk Tryz.prog Tryz.f9.ntmps Tryz.f9 sk9 = true := by kernel_rfl
theorem eq9 (b0 : Sl) (K : Value → World → Prop) (w : World) : fnF Tryz.prog cl Tryz.f9 sk9 [.slice b0.a b0.len b0.cap] K w = B9 b0 K w := by kernel_rfl
theorem call9 (b0 : Sl) (K : Value → World → Prop) (w : World) (h : B9 b0 K w) : Gets Tryz.prog 9 #[.slice b0.a b0.len b0.cap] w K :=
  calls_of (sk := sk9) cl_ok mixed Tryz.func9 ok9 (args := [.slice b0.a b0.len b0.cap]) (Nat.le_of_ble_eq_true (by kernel_rfl)) (by rw [eq9]; exact h)
def B12  (K : Value → World → Prop) (w : World) : Prop :=
  Calls Tryz.prog 33 #[] w fun e w_1 =>
  ∃ t1 : Option Addr, (e = .returned (.pointer t1)) ∧
  New (.map #[] 0) (fun b_t2 w_2 =>
  New (.cells #[.pointer t1, .int .i64 1, .map ((some b_t2))] 65 (0, 0)) (fun b_t4 w_3 =>
  K (.pointer ((some ⟨b_t4, 0, none⟩))) w_3) w_2) w_1
def sk12 : Sk := .leaf
theorem ok12 : fnOk Tryz.prog Tryz.f12.ntmps Tryz.f12 sk12 = true := by kernel_rfl
theorem eq12  (K : Value → World → Prop) (w : World) : fnF Tryz.prog cl Tryz.f12 sk12 [] K w = B12  K w := by kernel_rfl
theorem call12  (K : Value → World → Prop) (w : World) (h : B12  K w) : Gets Tryz.prog 12 #[] w K :=
  calls_of (sk := sk12) cl_ok mixed Tryz.func12 ok12 (args := []) (Nat.le_of_ble_eq_true (by kernel_rfl)) (by rw [eq12]; exact h)
def B13 (t0 : Option Addr) (b1 : Sl) (K : Value → World → Prop) (w : World) : Prop :=
  New (.cells #[.int .i64 0, .int .i64 0, .int .i64 0, .slice none 0 0] 39 (0, 0)) (fun b_t4 w_1 =>
  Calls Tryz.prog 9 #[.slice b1.a b1.len b1.cap] w_1 fun e w_2 =>
  ∃ t11 : Int, ∃ t11_1 : Int, ∃ t11_2 : Int, ∃ t11_3 : Int, ∃ t11_4 : Sl, ∃ t11_5 : Int, (e = .returned (.tuple #[.agg #[.int .i64 t11, .int .i64 t11_1, .int .i64 t11_2, .int .i64 t11_3, .slice t11_4.a t11_4.len t11_4.cap], .int .i64 t11_5])) ∧
  New (.cells #[.int .i64 0, .int .i64 0, .int .i64 0, .int .i64 0, .slice none 0 0] 24 (0, 0)) (fun b_a5 w_3 =>
  ∃ w_4 : World, ((Instr.storeAt 24 (.pointer ((some ⟨b_a5, 0, none⟩))) (.agg #[.int .i64 t11, .int .i64 t11_1, .int .i64 t11_2, .int .i64 t11_3, .slice t11_4.a t11_4.len t11_4.cap])).run Tryz.prog w_3 = .ok () w_4) ∧
  Br (t11_5 != 0)
   (Calls Tryz.prog 34 #[.int .i64 t11_5] w_4 fun e_1 w_5 =>
    ∃ t18 : Int, ∃ t18_1 : Int, ∃ t18_2 : Int, ∃ t18_3 : Sl, (e_1 = .returned (.agg #[.int .i64 t18, .int .i64 t18_1, .int .i64 t18_2, .slice t18_3.a t18_3.len t18_3.cap])) ∧
    ∃ w_6 : World, ((Instr.storeAt 39 (.pointer ((some ⟨b_t4, 0, none⟩))) (.agg #[.int .i64 t18, .int .i64 t18_1, .int .i64 t18_2, .slice t18_3.a t18_3.len t18_3.cap])).run Tryz.prog w_5 = .ok () w_6) ∧
    ∃ u : Int, ∃ u_1 : Int, ∃ u_2 : Int, ∃ u_3 : Sl, (At (fun w' => w' = w_6) ⟨b_t4, 0, none⟩ [.int .i64 u, .int .i64 u_1, .int .i64 u_2, .slice u_3.a u_3.len u_3.cap]) ∧
    K (.agg #[.int .i64 u, .int .i64 u_1, .int .i64 u_2, .slice u_3.a u_3.len u_3.cap]) w_6)
   (∃ t21 : Int, (At (fun w' => w' = w_4) ⟨b_a5, 0, none⟩ [.int .i64 t21]) ∧
    Br (t21 == 4)
     (Calls Tryz.prog 34 #[.int .i64 1] w_4 fun e_2 w_7 =>
      ∃ t23 : Int, ∃ t23_1 : Int, ∃ t23_2 : Int, ∃ t23_3 : Sl, (e_2 = .returned (.agg #[.int .i64 t23, .int .i64 t23_1, .int .i64 t23_2, .slice t23_3.a t23_3.len t23_3.cap])) ∧
      ∃ w_8 : World, ((Instr.storeAt 39 (.pointer ((some ⟨b_t4, 0, none⟩))) (.agg #[.int .i64 t23, .int .i64 t23_1, .int .i64 t23_2, .slice t23_3.a t23_3.len t23_3.cap])).run Tryz.prog w_7 = .ok () w_8) ∧
      ∃ u_4 : Int, ∃ u_5 : Int, ∃ u_6 : Int, ∃ u_7 : Sl, (At (fun w' => w' = w_8) ⟨b_t4, 0, none⟩ [.int .i64 u_4, .int .i64 u_5, .int .i64 u_6, .slice u_7.a u_7.len u_7.cap]) ∧
      K (.agg #[.int .i64 u_4, .int .i64 u_5, .int .i64 u_6, .slice u_7.a u_7.len u_7.cap]) w_8)
     (∃ t26 : Int, (At (fun w' => w' = w_4) ⟨b_a5, 0, none⟩ [.int .i64 t26]) ∧
      Br (t26 == 1)
       (∃ t30 : Int, (At (fun w' => w' = w_4) ⟨b_a5, 0 + 3, none⟩ [.int .i64 t30]) ∧
        Calls Tryz.prog 35 #[.pointer t0, .int .i64 t30] w_4 fun e_3 w_9 =>
        ∃ t31 : Int, ∃ t31_1 : Int, ∃ t31_2 : Int, ∃ t31_3 : Sl, (e_3 = .returned (.agg #[.int .i64 t31, .int .i64 t31_1, .int .i64 t31_2, .slice t31_3.a t31_3.len t31_3.cap])) ∧
        ∃ w_10 : World, ((Instr.storeAt 39 (.pointer ((some ⟨b_t4, 0, none⟩))) (.agg #[.int .i64 t31, .int .i64 t31_1, .int .i64 t31_2, .slice t31_3.a t31_3.len t31_3.cap])).run Tryz.prog w_9 = .ok () w_10) ∧
        ∃ u_8 : Int, ∃ u_9 : Int, ∃ u_10 : Int, ∃ u_11 : Sl, (At (fun w' => w' = w_10) ⟨b_t4, 0, none⟩ [.int .i64 u_8, .int .i64 u_9, .int .i64 u_10, .slice u_11.a u_11.len u_11.cap]) ∧
        K (.agg #[.int .i64 u_8, .int .i64 u_9, .int .i64 u_10, .slice u_11.a u_11.len u_11.cap]) w_10)
       (Drw w_4 fun S w_11 =>
        NilP t0 fun a_t34 =>
        ∃ t36 : Option Nat, (At S ⟨a_t34.block, a_t34.off + 2, none⟩ [.map t36]) ∧
        ∃ t38 : Int, (At S ⟨b_a5, 0 + 1, none⟩ [.int .i64 t38]) ∧
        ∃ t39 : Option Addr, ∃ t39_1 : Bool, (∀ w', S w' → ((Instr.lookup 63 (.map t36) (.int .i64 t38) true)).run Tryz.prog w' = .ok (.tuple #[.pointer t39, .bool t39_1]) w') ∧
        ∃ (J : Bool → World → Prop), (Drw w_11 fun S_1 w_12 =>
          Br (!t39_1)
           (∃ t47 : Int, (At S_1 ⟨b_a5, 0 + 1, none⟩ [.int .i64 t47]) ∧
            Br (decide (t47 ≥ 1))
             (∃ t52 : Int, (At S_1 ⟨b_a5, 0 + 1, none⟩ [.int .i64 t52]) ∧
              NilP t0 fun a_t54 =>
              ∃ t56 : Int, (At S_1 ⟨a_t54.block, a_t54.off + 1, none⟩ [.int .i64 t56]) ∧
              J (decide (t52 < t56)) w_12)
             (J false w_12))
           (J false w_12)) ∧
        ∀ (z : Env) (t42 : Bool) (w_13 : World), J t42 w_13 →
        Br t42
         (Calls Tryz.prog 34 #[.int .i64 10] w_13 fun e_4 w_14 =>
          ∃ t59 : Int, ∃ t59_1 : Int, ∃ t59_2 : Int, ∃ t59_3 : Sl, (e_4 = .returned (.agg #[.int .i64 t59, .int .i64 t59_1, .int .i64 t59_2, .slice t59_3.a t59_3.len t59_3.cap])) ∧
          ∃ w_15 : World, ((Instr.storeAt 39 (.pointer ((some ⟨b_t4, 0, none⟩))) (.agg #[.int .i64 t59, .int .i64 t59_1, .int .i64 t59_2, .slice t59_3.a t59_3.len t59_3.cap])).run Tryz.prog w_14 = .ok () w_15) ∧
          ∃ u_12 : Int, ∃ u_13 : Int, ∃ u_14 : Int, ∃ u_15 : Sl, (At (fun w' => w' = w_15) ⟨b_t4, 0, none⟩ [.int .i64 u_12, .int .i64 u_13, .int .i64 u_14, .slice u_15.a u_15.len u_15.cap]) ∧
          K (.agg #[.int .i64 u_12, .int .i64 u_13, .int .i64 u_14, .slice u_15.a u_15.len u_15.cap]) w_15)
         (Br (!t39_1)
           (Calls Tryz.prog 34 #[.int .i64 2] w_13 fun e_5 w_16 =>
            ∃ t63 : Int, ∃ t63_1 : Int, ∃ t63_2 : Int, ∃ t63_3 : Sl, (e_5 = .returned (.agg #[.int .i64 t63, .int .i64 t63_1, .int .i64 t63_2, .slice t63_3.a t63_3.len t63_3.cap])) ∧
            ∃ w_17 : World, ((Instr.storeAt 39 (.pointer ((some ⟨b_t4, 0, none⟩))) (.agg #[.int .i64 t63, .int .i64 t63_1, .int .i64 t63_2, .slice t63_3.a t63_3.len t63_3.cap])).run Tryz.prog w_16 = .ok () w_17) ∧
            ∃ u_16 : Int, ∃ u_17 : Int, ∃ u_18 : Int, ∃ u_19 : Sl, (At (fun w' => w' = w_17) ⟨b_t4, 0, none⟩ [.int .i64 u_16, .int .i64 u_17, .int .i64 u_18, .slice u_19.a u_19.len u_19.cap]) ∧
            K (.agg #[.int .i64 u_16, .int .i64 u_17, .int .i64 u_18, .slice u_19.a u_19.len u_19.cap]) w_17)
           (∃ t66 : Int, (At (fun w' => w' = w_13) ⟨b_a5, 0, none⟩ [.int .i64 t66]) ∧
            Br (t66 == 3)
             (Drw w_13 fun S_2 w_18 =>
              NilP t0 fun a_t69 =>
              ∃ t71 : Option Nat, (At S_2 ⟨a_t69.block, a_t69.off + 2, none⟩ [.map t71]) ∧
              ∃ t73 : Int, (At S_2 ⟨b_a5, 0 + 1, none⟩ [.int .i64 t73]) ∧
              ∃ w_19 : World, ((Builtin.delete_ #[63, 3] 0 #[.map t71, .int .i64 t73]).run Tryz.prog w_18 = .ok (.tuple #[]) w_19) ∧
              ∃ t75 : Int, (At (fun w' => w' = w_19) ⟨b_a5, 0 + 1, none⟩ [.int .i64 t75]) ∧
              ∃ w_20 : World, ((Instr.storeAt 39 (.pointer ((some ⟨b_t4, 0, none⟩))) (.agg #[.int .i64 0, .int .i64 t75, .int .i64 0, .slice none 0 0])).run Tryz.prog w_19 = .ok () w_20) ∧
              ∃ u_20 : Int, ∃ u_21 : Int, ∃ u_22 : Int, ∃ u_23 : Sl, (At (fun w' => w' = w_20) ⟨b_t4, 0, none⟩ [.int .i64 u_20, .int .i64 u_21, .int .i64 u_22, .slice u_23.a u_23.len u_23.cap]) ∧
              K (.agg #[.int .i64 u_20, .int .i64 u_21, .int .i64 u_22, .slice u_23.a u_23.len u_23.cap]) w_20)
             (Drw w_13 fun S_3 w_21 =>
              ∃ t79 : Int, (At S_3 ⟨b_a5, 0 + 2, none⟩ [.int .i64 t79]) ∧
              NilP t39 fun a_t81 =>
              ∃ t83 : Int, (At S_3 ⟨a_t81.block, a_t81.off + 1, none⟩ [.int .i64 t83]) ∧
              Br (decide (t79 > IntKind.i64.wrap (t83 + 1)))
               (Calls Tryz.prog 34 #[.int .i64 7] w_21 fun e_6 w_22 =>
                ∃ t86 : Int, ∃ t86_1 : Int, ∃ t86_2 : Int, ∃ t86_3 : Sl, (e_6 = .returned (.agg #[.int .i64 t86, .int .i64 t86_1, .int .i64 t86_2, .slice t86_3.a t86_3.len t86_3.cap])) ∧
                ∃ w_23 : World, ((Instr.storeAt 39 (.pointer ((some ⟨b_t4, 0, none⟩))) (.agg #[.int .i64 t86, .int .i64 t86_1, .int .i64 t86_2, .slice t86_3.a t86_3.len t86_3.cap])).run Tryz.prog w_22 = .ok () w_23) ∧
                ∃ u_24 : Int, ∃ u_25 : Int, ∃ u_26 : Int, ∃ u_27 : Sl, (At (fun w' => w' = w_23) ⟨b_t4, 0, none⟩ [.int .i64 u_24, .int .i64 u_25, .int .i64 u_26, .slice u_27.a u_27.len u_27.cap]) ∧
                K (.agg #[.int .i64 u_24, .int .i64 u_25, .int .i64 u_26, .slice u_27.a u_27.len u_27.cap]) w_23)
               (∃ (J_1 : Bool → World → Prop), (Drw w_21 fun S_4 w_24 =>
                  ∃ t89 : Int, (At S_4 ⟨b_a5, 0 + 2, none⟩ [.int .i64 t89]) ∧
                  NilP t39 fun a_t91 =>
                  ∃ t93 : Int, (At S_4 ⟨a_t91.block, a_t91.off + 1, none⟩ [.int .i64 t93]) ∧
                  Br (decide (t89 < t93))
                   (J_1 true w_24)
                   (∃ t97 : Int, (At S_4 ⟨b_a5, 0 + 2, none⟩ [.int .i64 t97]) ∧
                    J_1 (t97 == 0) w_24)) ∧
                ∀ (z_1 : Env) (t87 : Bool) (w_25 : World), J_1 t87 w_25 →
                Br t87
                 (Calls Tryz.prog 34 #[.int .i64 11] w_25 fun e_7 w_26 =>
                  ∃ t100 : Int, ∃ t100_1 : Int, ∃ t100_2 : Int, ∃ t100_3 : Sl, (e_7 = .returned (.agg #[.int .i64 t100, .int .i64 t100_1, .int .i64 t100_2, .slice t100_3.a t100_3.len t100_3.cap])) ∧
                  ∃ w_27 : World, ((Instr.storeAt 39 (.pointer ((some ⟨b_t4, 0, none⟩))) (.agg #[.int .i64 t100, .int .i64 t100_1, .int .i64 t100_2, .slice t100_3.a t100_3.len t100_3.cap])).run Tryz.prog w_26 = .ok () w_27) ∧
                  ∃ u_28 : Int, ∃ u_29 : Int, ∃ u_30 : Int, ∃ u_31 : Sl, (At (fun w' => w' = w_27) ⟨b_t4, 0, none⟩ [.int .i64 u_28, .int .i64 u_29, .int .i64 u_30, .slice u_31.a u_31.len u_31.cap]) ∧
                  K (.agg #[.int .i64 u_28, .int .i64 u_29, .int .i64 u_30, .slice u_31.a u_31.len u_31.cap]) w_27)
                 (Drw w_25 fun S_5 w_28 =>
                  ∃ t103 : Int, (At S_5 ⟨b_a5, 0 + 2, none⟩ [.int .i64 t103]) ∧
                  NilP t39 fun a_t105 =>
                  ∃ t107 : Int, (At S_5 ⟨a_t105.block, a_t105.off + 1, none⟩ [.int .i64 t107]) ∧
                  Br (decide (t103 > t107))
                   (Drw w_28 fun S_6 w_29 =>
                    ∃ t112 : Int, (At S_6 ⟨b_a5, 0 + 2, none⟩ [.int .i64 t112]) ∧
                    ∃ t114 : Sl, (At S_6 ⟨b_a5, 0 + 4, none⟩ [.slice t114.a t114.len t114.cap]) ∧
                    NilP t0 fun a_t116 =>
                    ∃ t118 : Option Addr, (At S_6 (Addr.add a_t116 0) [.pointer t118]) ∧
                    Calls Tryz.prog 36 #[.slice t114.a t114.len t114.cap, .func (.func 37) #[.pointer t118] #[]] w_29 fun e_8 w_30 =>
                    ∃ t120 : Sl, (e_8 = .returned (.slice t120.a t120.len t120.cap)) ∧
                    (S_6 w_30) ∧
                    NilP t39 fun a_t121 =>
                    ∃ w_31 : World, ((Instr.storeAt 3 (.pointer ((some ⟨a_t121.block, a_t121.off + 1, none⟩))) (.int .i64 t112)).run Tryz.prog w_30 = .ok () w_31) ∧
                    (S_6 w_31) ∧
                    NilP t39 fun a_t123 =>
                    ∃ w_32 : World, ((Instr.storeAt 22 (.pointer ((some ⟨a_t123.block, a_t123.off + 2, none⟩))) (.slice t120.a t120.len t120.cap)).run Tryz.prog w_31 = .ok () w_32) ∧
                    Drw w_32 fun S_7 w_33 =>
                    ∃ t126 : Int, (At S_7 ⟨b_a5, 0 + 1, none⟩ [.int .i64 t126]) ∧
                    ∃ t128 : Int, (At S_7 ⟨b_a5, 0 + 2, none⟩ [.int .i64 t128]) ∧
                    NilP t39 fun a_t130 =>
                    ∃ t132 : Sl, (At S_7 ⟨a_t130.block, a_t130.off + 2, none⟩ [.slice t132.a t132.len t132.cap]) ∧
                    Calls Tryz.prog 38 #[.slice t132.a t132.len t132.cap] w_33 fun e_9 w_34 =>
                    ∃ t133 : Sl, (e_9 = .returned (.slice t133.a t133.len t133.cap)) ∧
                    (S_7 w_34) ∧
                    ∃ w_35 : World, ((Instr.storeAt 39 (.pointer ((some ⟨b_t4, 0, none⟩))) (.agg #[.int .i64 0, .int .i64 t126, .int .i64 t128, .slice t133.a t133.len t133.cap])).run Tryz.prog w_34 = .ok () w_35) ∧
                    ∃ u_32 : Int, ∃ u_33 : Int, ∃ u_34 : Int, ∃ u_35 : Sl, (At (fun w' => w' = w_35) ⟨b_t4, 0, none⟩ [.int .i64 u_32, .int .i64 u_33, .int .i64 u_34, .slice u_35.a u_35.len u_35.cap]) ∧
                    K (.agg #[.int .i64 u_32, .int .i64 u_33, .int .i64 u_34, .slice u_35.a u_35.len u_35.cap]) w_35)
                   (Drw w_28 fun S_8 w_36 =>
                    ∃ t126_1 : Int, (At S_8 ⟨b_a5, 0 + 1, none⟩ [.int .i64 t126_1]) ∧
                    ∃ t128_1 : Int, (At S_8 ⟨b_a5, 0 + 2, none⟩ [.int .i64 t128_1]) ∧
                    NilP t39 fun a_t130_1 =>
                    ∃ t132_1 : Sl, (At S_8 ⟨a_t130_1.block, a_t130_1.off + 2, none⟩ [.slice t132_1.a t132_1.len t132_1.cap]) ∧
                    Calls Tryz.prog 38 #[.slice t132_1.a t132_1.len t132_1.cap] w_36 fun e_10 w_37 =>
                    ∃ t133_1 : Sl, (e_10 = .returned (.slice t133_1.a t133_1.len t133_1.cap)) ∧
                    (S_8 w_37) ∧
                    ∃ w_38 : World, ((Instr.storeAt 39 (.pointer ((some ⟨b_t4, 0, none⟩))) (.agg #[.int .i64 0, .int .i64 t126_1, .int .i64 t128_1, .slice t133_1.a t133_1.len t133_1.cap])).run Tryz.prog w_37 = .ok () w_38) ∧
                    ∃ u_36 : Int, ∃ u_37 : Int, ∃ u_38 : Int, ∃ u_39 : Sl, (At (fun w' => w' = w_38) ⟨b_t4, 0, none⟩ [.int .i64 u_36, .int .i64 u_37, .int .i64 u_38, .slice u_39.a u_39.len u_39.cap]) ∧
                    K (.agg #[.int .i64 u_36, .int .i64 u_37, .int .i64 u_38, .slice u_39.a u_39.len u_39.cap]) w_38)))))))))) w_2) w
def sk13 : Sk := (.seq .leaf (.seq .leaf (.seq .leaf (.seq .leaf (.seq (.block (.cut [42] [.bool] [42, 43, 44, 45, 46, 47, 48, 49, 50, 51, 52, 53, 54, 55, 56, 57, 58] .leaf (.cond .leaf (.seq .leaf (.cond .leaf (.seq .leaf (.cond .leaf (.seq .leaf (.cond .leaf (.cut [87] [.bool] [87, 88, 89, 90, 91, 92, 93, 94, 95, 96, 97, 98, 99] .leaf .leaf)))))))))) .leaf)))))
theorem ok13 : fnOk Tryz.prog Tryz.f13.ntmps Tryz.f13 sk13 = true := by kernel_rfl
theorem eq13 (t0 : Option Addr) (b1 : Sl) (K : Value → World → Prop) (w : World) : fnF Tryz.prog cl Tryz.f13 sk13 [.pointer t0, .slice b1.a b1.len b1.cap] K w = B13 t0 b1 K w := by kernel_rfl
theorem call13 (t0 : Option Addr) (b1 : Sl) (K : Value → World → Prop) (w : World) (h : B13 t0 b1 K w) : Gets Tryz.prog 13 #[.pointer t0, .slice b1.a b1.len b1.cap] w K :=
  calls_of (sk := sk13) cl_ok mixed Tryz.func13 ok13 (args := [.pointer t0, .slice b1.a b1.len b1.cap]) (Nat.le_of_ble_eq_true (by kernel_rfl)) (by rw [eq13]; exact h)
def B35 (t0 : Option Addr) (token1 : Int) (K : Value → World → Prop) (w : World) : Prop :=
  New (.cells #[.int .i64 0, .int .i64 0, .int .i64 0, .slice none 0 0] 39 (0, 0)) (fun b_t4 w_1 =>
  NilP t0 fun a_t8 =>
  ∃ t10 : Option Nat, (At (fun w' => w' = w_1) ⟨a_t8.block, a_t8.off + 2, none⟩ [.map t10]) ∧
  ∃ w_2 : World, ∃ t11 : Option Addr, ((Instr.range 63 (.map t10)).run Tryz.prog w_1 = .ok (.pointer t11) w_2) ∧
  ∃ (I : World → Prop) (μ : World → Nat), (I  w_2) ∧ ∀ (z : Env)  (w_3 : World), I  w_3 →
  ∃ w_4 : World, (((Instr.next (.pointer t11) false 0).run Tryz.prog w_3 = .ok (.tuple #[.bool false]) w_4) ∧
   NilP t0 fun a_t26 =>
   ∃ t28 : Option Nat, (At (fun w' => w' = w_4) ⟨a_t26.block, a_t26.off + 2, none⟩ [.map t28]) ∧
   ∃ t29 : Int, (∀ w', (fun w' => w' = w_4) w' → ((Builtin.len_ #[63] 3 #[.map t28])).run Tryz.prog w' = .ok (.int .i64 t29) w') ∧
   Br (decide (t29 ≥ 64))
    (Calls Tryz.prog 34 #[.int .i64 3] w_4 fun e w_5 =>
     ∃ t31 : Int, ∃ t31_1 : Int, ∃ t31_2 : Int, ∃ t31_3 : Sl, (e = .returned (.agg #[.int .i64 t31, .int .i64 t31_1, .int .i64 t31_2, .slice t31_3.a t31_3.len t31_3.cap])) ∧
     ∃ w_6 : World, ((Instr.storeAt 39 (.pointer ((some ⟨b_t4, 0, none⟩))) (.agg #[.int .i64 t31, .int .i64 t31_1, .int .i64 t31_2, .slice t31_3.a t31_3.len t31_3.cap])).run Tryz.prog w_5 = .ok () w_6) ∧
     ∃ u : Int, ∃ u_1 : Int, ∃ u_2 : Int, ∃ u_3 : Sl, (At (fun w' => w' = w_6) ⟨b_t4, 0, none⟩ [.int .i64 u, .int .i64 u_1, .int .i64 u_2, .slice u_3.a u_3.len u_3.cap]) ∧
     K (.agg #[.int .i64 u, .int .i64 u_1, .int .i64 u_2, .slice u_3.a u_3.len u_3.cap]) w_6)
    (Drw w_4 fun S w_7 =>
     NilP t0 fun a_t33 =>
     ∃ t35 : Option Nat, (At S ⟨a_t33.block, a_t33.off + 2, none⟩ [.map t35]) ∧
     NilP t0 fun a_t37 =>
     ∃ t39 : Int, (At S ⟨a_t37.block, a_t37.off + 1, none⟩ [.int .i64 t39]) ∧
     New (.cells #[.int .i64 token1, .int .i64 0, .slice none 0 0] 71 (0, 0)) (fun b_t42 w_8 =>
     (S w_8) ∧
     ∃ w_9 : World, ((Instr.mapUpdate 63 (.map t35) (.int .i64 t39) (.pointer ((some ⟨b_t42, 0, none⟩)))).run Tryz.prog w_8 = .ok () w_9) ∧
     NilP t0 fun a_t44 =>
     ∃ t46 : Int, (At (fun w' => w' = w_9) ⟨a_t44.block, a_t44.off + 1, none⟩ [.int .i64 t46]) ∧
     NilP t0 fun a_t48 =>
     ∃ w_10 : World, ((Instr.storeAt 3 (.pointer ((some ⟨a_t48.block, a_t48.off + 1, none⟩))) (.int .i64 (IntKind.i64.wrap (t46 + 1)))).run Tryz.prog w_9 = .ok () w_10) ∧
     NilP t0 fun a_t51 =>
     ∃ t53 : Int, (At (fun w' => w' = w_10) ⟨a_t51.block, a_t51.off + 1, none⟩ [.int .i64 t53]) ∧
     ∃ w_11 : World, ((Instr.storeAt 39 (.pointer ((some ⟨b_t4, 0, none⟩))) (.agg #[.int .i64 0, .int .i64 (IntKind.i64.wrap (t53 - 1)), .int .i64 0, .slice none 0 0])).run Tryz.prog w_10 = .ok () w_11) ∧
     ∃ u_4 : Int, ∃ u_5 : Int, ∃ u_6 : Int, ∃ u_7 : Sl, (At (fun w' => w' = w_11) ⟨b_t4, 0, none⟩ [.int .i64 u_4, .int .i64 u_5, .int .i64 u_6, .slice u_7.a u_7.len u_7.cap]) ∧
     K (.agg #[.int .i64 u_4, .int .i64 u_5, .int .i64 u_6, .slice u_7.a u_7.len u_7.cap]) w_11) w_7)) ∨
  (∃ u_8 : Value, ∃ u_9 : Value, ((Instr.next (.pointer t11) false 0).run Tryz.prog w_3 = .ok (.tuple #[.bool true, u_8, u_9]) w_4) ∧
   ∃ t13 : Int, ∃ t13_1 : Option Addr, (∀ w', (fun w' => w' = w_4) w' → ((Instr.entry (.pointer t11))).run Tryz.prog w' = .ok (.tuple #[.int .i64 t13, .pointer t13_1]) w') ∧
   NilP t13_1 fun a_t18 =>
   ∃ t20 : Int, (At (fun w' => w' = w_4) (Addr.add a_t18 0) [.int .i64 t20]) ∧
   Br (t20 == token1)
    (∃ w_12 : World, ((Instr.storeAt 39 (.pointer ((some ⟨b_t4, 0, none⟩))) (.agg #[.int .i64 0, .int .i64 t13, .int .i64 0, .slice none 0 0])).run Tryz.prog w_4 = .ok () w_12) ∧
     ∃ u_10 : Int, ∃ u_11 : Int, ∃ u_12 : Int, ∃ u_13 : Sl, (At (fun w' => w' = w_12) ⟨b_t4, 0, none⟩ [.int .i64 u_10, .int .i64 u_11, .int .i64 u_12, .slice u_13.a u_13.len u_13.cap]) ∧
     K (.agg #[.int .i64 u_10, .int .i64 u_11, .int .i64 u_12, .slice u_13.a u_13.len u_13.cap]) w_12)
    ((I  w_4) ∧ μ  w_4 < μ  w_3))) w
def sk35 : Sk := (.seq .leaf (.seq (.seq .leaf (.block (.loop [] [] [5, 6, 12, 13, 14, 15, 16, 17, 18, 19, 20, 21, 22, 23, 24] .leaf))) .leaf))
theorem ok35 : fnOk Tryz.prog Tryz.f35.ntmps Tryz.f35 sk35 = true := by kernel_rfl
theorem eq35 (t0 : Option Addr) (token1 : Int) (K : Value → World → Prop) (w : World) : fnF Tryz.prog cl Tryz.f35 sk35 [.pointer t0, .int .i64 token1] K w = B35 t0 token1 K w := by kernel_rfl
theorem call35 (t0 : Option Addr) (token1 : Int) (K : Value → World → Prop) (w : World) (h : B35 t0 token1 K w) : Gets Tryz.prog 35 #[.pointer t0, .int .i64 token1] w K :=
  calls_of (sk := sk35) cl_ok mixed Tryz.func35 ok35 (args := [.pointer t0, .int .i64 token1]) (Nat.le_of_ble_eq_true (by kernel_rfl)) (by rw [eq35]; exact h)
end Go.Proofs.YtadnmnkbgjippaaGreatDoor
/- Package session: requests and answers as bytes. Condition: bounds on lengths. -/
namespace Go.Proofs.YtadnmnkbgjippaaGreatDoor
set_option linter.unusedVariables false
open Go Go.VC
open Classical
variable {R : Cx} {Hs Rest : List HP} {w : World}
abbrev rqV (q : Rq) (s : Sl) : List Value := [.int .i64 q.kind, .int .i64 q.client, .int .i64 q.seq, .int .i64 q.token, .slice s.a s.len s.cap]
abbrev rqC (b : Nat) (q : Rq) (s : Sl) : HP := pts b (.cells (rqV q s).toArray 24 (0, 0))
abbrev tdV (t : Told) (s : Sl) : List Value := [.int .i64 t.code, .int .i64 t.client, .int .i64 t.seq, .slice s.a s.len s.cap]
abbrev tdC (b : Nat) (t : Told) (s : Sl) : HP := pts b (.cells (tdV t s).toArray 39 (0, 0))
abbrev nilS : Sl := ⟨none, 0, 0⟩
theorem snums_spec {s : Sl} {xs : List Int} (hxs : ∀ x ∈ xs, x < 9223372036854775808) (hl : 9 * xs.length ≤ 1099511627776) (hs : RoI R s xs) (hw : Sat R Hs w) :
    Gets Tryz.prog 21 #[.slice s.a s.len s.cap] w fun v w' => ∃ t : Sl, v = .slice t.a t.len t.cap ∧ Sat R (Own t 5 (b8 (numsB (xs.map nn))) :: Hs) w' := by
  have hlen := hs.len
  apply call21
  refine ⟨fun out i w => ∃ k : Nat, i = k ∧ k ≤ xs.length ∧ Sat R (Own out 5 (b8 (numsB ((xs.take k).map nn))) :: Hs) w, fun _ i _ => xs.length - i.toNat, ⟨0, rfl, by omega, Own.nil hw⟩, ?_⟩
  clear hw
  rintro _ out _ w ⟨k, rfl, hk, hw⟩
  refine Br.d (fun h => ?_) (fun h => ?_)
  · have hkx : k < xs.length := by omega
    have hx := nn_bd (hxs xs[k] (List.getElem_mem _))
    have hxt : ∀ x ∈ (xs.take k).map nn, 0 ≤ x ∧ x < 18446744073709551616 := fun x hx => by
      obtain ⟨y, hy, rfl⟩ := List.mem_map.1 hx
      have := nn_bd (hxs y (List.mem_of_mem_take hy)); omega
    have hnl := numsB_len hxt
    rw [List.length_map, List.length_take] at hnl
    refine Ro.ix hs (eqS hw) k rfl hkx ?_
    rw [nn_if]
    obtain ⟨n, hn⟩ := Int.eq_ofNat_of_zero_le hx.1
    rw [hn, wrapU64 (by omega) (by omega)]
    refine (number_spec (by omega) hw).use ?_
    rintro _ w ⟨t, rfl, hw⟩
    refine ⟨t, rfl, ?_⟩
    have hnb := numB_len (n := n) (by omega)
    refine app8 (by omega) hw fun s2 w hw => ?_
    rw [wrap64 (by omega) (by omega)]
    refine ⟨⟨k + 1, by omega, by omega, ?_⟩, by dsimp only; omega⟩
    have e : (xs.take (k + 1)).map nn = (xs.take k).map nn ++ [nn xs[k]] := by rw [List.take_add_one, List.getElem?_eq_getElem hkx, List.map_append]; rfl
    rw [e, numsB_app, show numsB [nn xs[k]] = numB (nn xs[k]).toNat by simp [numsB], hn, Int.toNat_natCast]
    exact hw
  · rw [List.take_of_length_le (l := xs) (by omega)] at hw
    exact ⟨out, rfl, hw⟩
theorem slit_spec {b n : Nat} {xs : List Int} (hn : n = xs.length) (hxs : ∀ x ∈ xs, x < 9223372036854775808) (hl : 9 * xs.length ≤ 1099511627776) (hw : Sat R (pts b (.cells (intsI xs).toArray 3 (0, 0)) :: Hs) w) :
    Gets Tryz.prog 21 #[.slice (some ⟨b, 0, none⟩) n n] w fun v w' => ∃ t : Sl, v = .slice t.a t.len t.cap ∧ Sat R (Own t 5 (b8 (numsB (xs.map nn))) :: Hs) w' := by
  have hw : Sat R (Own ⟨some ⟨b, 0, none⟩, n, n⟩ 3 (intsI xs) :: Hs) w := own_lit hw (by rw [List.length_map]; exact hn)
  obtain ⟨R', hr, _, hw, back⟩ := Own.lendI hw (by omega)
  refine (snums_spec hxs hl hr hw).use ?_
  rintro _ w ⟨t, rfl, hw⟩
  exact ⟨_, rfl, t, rfl, (back hw).swap.cons fun _ h => h.drop⟩
theorem sodd_spec {n : Int} (hw : Sat R Hs w) : Gets Tryz.prog 39 #[.int .i64 n] w fun v w' => v = .bool (!decide (inI n)) ∧ Sat R Hs w' := by
  apply call39
  refine Br.d (fun h => ⟨?_, hw⟩) (fun h => ⟨?_, hw⟩)
  · rw [decide_eq_false (p := inI n) (fun h2 => by unfold inI at h2; omega)]; rfl
  · by_cases h2 : n > 1099511627776
    · rw [decide_eq_true h2, decide_eq_false (p := inI n) (fun h3 => by unfold inI at h3; omega)]; rfl
    · rw [decide_eq_false h2, decide_eq_true (p := inI n) ⟨by omega, by omega⟩]; rfl
theorem srightQ_spec {q : Rq} {s : Sl} (hs : s.len = q.cmd.length) (hw : Sat R Hs w) :
    Gets Tryz.prog 20 #[.agg #[.int .i64 q.kind, .int .i64 q.client, .int .i64 q.seq, .int .i64 q.token, .slice s.a s.len s.cap]] w fun v w' => v = .bool (decide (RightQ q)) ∧ Sat R Hs w' := by
  apply call20
  refine new_rule hw fun b w hw => ?_
  have hw : Sat R (rqC b q s :: Hs) w := hw
  have no : ¬ RightQ q → ∀ {w}, Sat R (rqC b q s :: Hs) w → (Value.bool false = .bool (decide (RightQ q)) ∧ Sat R Hs w) := fun h w hw => ⟨by rw [decide_eq_false h], hw.drop⟩
  refine ⟨fun w => ((inI q.client ∧ inI q.seq ∧ inI q.token) ∧ q.cmd.length ≤ 4000) ∧ Sat R (rqC b q s :: Hs) w, ?_, ?_⟩
  · refine ⟨q.client, At.own (eqS hw) (by exact ⟨rfl, trivial⟩), q.seq, At.own (eqS hw) (by exact ⟨rfl, trivial⟩), q.token, At.own (eqS hw) (by exact ⟨rfl, trivial⟩), ?_⟩
    refine new_rule hw fun b2 w hw => ?_
    have hw : Sat R (Own ⟨some ⟨b2, 0, none⟩, 3, 3⟩ 3 (intsI [q.client, q.seq, q.token]) :: rqC b q s :: Hs) w := own_lit hw
    obtain ⟨R', hr, _, hw, back⟩ := Own.lendI hw (by simp)
    refine (contF_spec (p := fun n => !decide (inI n)) (s := ⟨some ⟨b2, 0, none⟩, 3, 3⟩) hr (fun x w hw => CalW.mk (by kernel_rfl) ((sodd_spec hw).use fun v w h => ⟨by rw [h.1], h.2⟩)) hw).use ?_
    clear hw
    rintro _ w ⟨rfl, hw⟩
    have hw := (back hw).drop
    refine ⟨_, rfl, Br.mk (fun h => no (fun hq => ?_) hw) (fun h => ?_)⟩
    · have h1 := hq.client
      have h2 := hq.seq
      have h3 := hq.token
      simp [h1, h2, h3] at h
    · have hI : inI q.client ∧ inI q.seq ∧ inI q.token := by simpa using h
      refine ⟨s, At.own (eqS hw) (by exact ⟨rfl, trivial⟩), Br.d (fun h2 => no (fun hq => by have := hq.cmd; omega) hw) (fun h2 => ⟨⟨hI, by omega⟩, hw⟩)⟩
  clear hw
  rintro _ w ⟨⟨⟨h1, h2, h3⟩, h4⟩, hw⟩
  refine ⟨fun t w => t = decide (q.seq = 0 ∧ q.cmd.length = 0) ∧ Sat R (rqC b q s :: Hs) w, ?_, ?_⟩
  · refine ⟨q.seq, At.own (eqS hw) (by exact ⟨rfl, trivial⟩), Br.e (fun h5 => ?_) (fun h5 => ⟨by rw [decide_eq_false (by omega)], hw⟩)⟩
    refine ⟨s, At.own (eqS hw) (by exact ⟨rfl, trivial⟩), ?_, hw⟩
    show decide ((s.len : Int) = 0) = _
    exact decide_eq_decide.2 (by omega)
  clear hw
  rintro _ _ w ⟨rfl, hw⟩
  have fin : ∀ {p : Prop} {i : Decidable p}, (p ↔ RightQ q) → (Value.bool (@decide p i) = .bool (decide (RightQ q)) ∧ Sat R Hs w) := fun h => ⟨by congr 1; exact decide_eq_decide.2 h, hw.drop⟩
  have mk : ∀ (hk : (q.kind = 1 ∧ q.client = 0 ∧ q.seq = 0 ∧ q.cmd.length = 0) ∨ (q.kind = 2 ∧ q.token = 0) ∨ (q.kind = 3 ∧ q.token = 0 ∧ q.seq = 0 ∧ q.cmd.length = 0) ∨ (q.kind = 4 ∧ q.client = 0 ∧ q.seq = 0 ∧ q.token = 0)), RightQ q := fun hk => ⟨h1, h2, h3, h4, hk⟩
  refine ⟨q.kind, At.own (eqS hw) (by exact ⟨rfl, trivial⟩), Br.e (fun k => ?_) (fun k1 => ?_)⟩
  · refine ⟨q.client, At.own (eqS hw) (by exact ⟨rfl, trivial⟩), Br.e (fun h5 => fin ?_) (fun h5 => no (fun hq => by have := hq.kind; omega) hw)⟩
    exact ⟨fun h6 => mk (by omega), fun hq => by have := hq.kind; omega⟩
  refine Br.e (fun k => ?_) (fun k2 => ?_)
  · refine ⟨q.token, At.own (eqS hw) (by exact ⟨rfl, trivial⟩), fin (p := q.token = 0) ?_⟩
    exact ⟨fun h6 => mk (by omega), fun hq => by have := hq.kind; omega⟩
  refine Br.e (fun k => ?_) (fun k3 => ?_)
  · refine ⟨q.token, At.own (eqS hw) (by exact ⟨rfl, trivial⟩), Br.e (fun h5 => fin ?_) (fun h5 => no (fun hq => by have := hq.kind; omega) hw)⟩
    exact ⟨fun h6 => mk (by omega), fun hq => by have := hq.kind; omega⟩
  refine Br.e (fun k => ?_) (fun k4 => no (fun hq => by have := hq.kind; omega) hw)
  refine ⟨q.client, At.own (eqS hw) (by exact ⟨rfl, trivial⟩), Br.e (fun h5 => ?_) (fun h5 => no (fun hq => by have := hq.kind; omega) hw)⟩
  refine ⟨q.seq, At.own (eqS hw) (by exact ⟨rfl, trivial⟩), Br.e (fun h6 => ?_) (fun h6 => no (fun hq => by have := hq.kind; omega) hw)⟩
  refine ⟨q.token, At.own (eqS hw) (by exact ⟨rfl, trivial⟩), fin (p := q.token = 0) ?_⟩
  exact ⟨fun h7 => mk (by omega), fun hq => by have := hq.kind; omega⟩
theorem nnq {q : Rq} (h : RightQ q) : [q.kind, q.client, q.seq, q.token].map nn = [q.kind, q.client, q.seq, q.token] := by
  have h1 := h.k4
  obtain ⟨a1, a2⟩ := h.client
  obtain ⟨a3, a4⟩ := h.seq
  obtain ⟨a5, a6⟩ := h.token
  show [nn q.kind, nn q.client, nn q.seq, nn q.token] = _
  rw [nn_id (by omega), nn_id a1, nn_id a3, nn_id a5]
theorem senc_spec {q : Rq} {s : Sl} (hs : Ro R s (b8 q.cmd)) (hw : Sat R Hs w) :
    Gets Tryz.prog 7 #[.agg #[.int .i64 q.kind, .int .i64 q.client, .int .i64 q.seq, .int .i64 q.token, .slice s.a s.len s.cap]] w fun v w' =>
      ∃ t : Sl, v = .tuple #[.slice t.a t.len t.cap, .int .i64 (encQ q).2] ∧ Sat R (Own t 5 (b8 (encQ q).1) :: Hs) w' := by
  have hslen : s.len = q.cmd.length := by have := hs.len; simpa using this
  apply call7
  refine new_rule hw fun b w hw => ?_
  have hw : Sat R (rqC b q s :: Hs) w := hw
  refine ⟨q.kind, q.client, q.seq, q.token, s, At.own (eqS hw) (by exact ⟨rfl, rfl, rfl, rfl, rfl, trivial⟩), ?_⟩
  refine (srightQ_spec hslen hw).use ?_
  clear hw
  rintro _ w ⟨rfl, hw⟩
  refine ⟨_, rfl, Br.nd (fun h => ?_) (fun h => ?_)⟩
  · unfold encQ
    rw [if_neg h]
    exact ⟨nilS, rfl, Own.nil hw.drop⟩
  have h1 := h.k4
  obtain ⟨a1, a2⟩ := h.client
  obtain ⟨a3, a4⟩ := h.seq
  obtain ⟨a5, a6⟩ := h.token
  have h2 := h.cmd
  refine drw_rule' (Sat R [rqC b q s, VC.tru]) hw (fun w hw => hw.restTru2) fun w hw => ?_
  refine ⟨q.kind, At.own (fun _ h => h) (by exact ⟨rfl, trivial⟩), q.client, At.own (fun _ h => h) (by exact ⟨rfl, trivial⟩), q.seq, At.own (fun _ h => h) (by exact ⟨rfl, trivial⟩), q.token, At.own (fun _ h => h) (by exact ⟨rfl, trivial⟩), s, At.own (fun _ h => h) (by exact ⟨rfl, trivial⟩), ?_⟩
  refine new_rule hw fun b2 w hw => ⟨hw.swap.restTru2, ?_⟩
  refine (slit_spec (xs := [q.kind, q.client, q.seq, q.token]) rfl (fun x hx => by
    simp only [List.mem_cons, List.not_mem_nil, or_false] at hx
    omega) (by simp) hw).use ?_
  clear hw
  rintro _ w ⟨t1, rfl, hw⟩
  rw [nnq h] at hw
  refine ⟨t1, rfl, hw.swap.restTru2, ?_⟩
  refine (ftext_spec hs (by omega) hw).use ?_
  clear hw
  rintro _ w ⟨t2, rfl, hw⟩
  refine ⟨t2, rfl, (hw.arr (Hs' := rqC b q s :: Own t2 5 (b8 (textB q.cmd)) :: Own t1 5 (b8 (numsB [q.kind, q.client, q.seq, q.token])) :: Hs)).restTru2, ?_⟩
  have l1 := numsB_len (l := [q.kind, q.client, q.seq, q.token]) fun x hx => by
    simp only [List.mem_cons, List.not_mem_nil, or_false] at hx
    rcases hx with rfl | rfl | rfl | rfl <;> omega
  have l2 := textB_len (d := q.cmd) (by omega)
  simp only [List.length_cons, List.length_nil] at l1
  refine app8 (by omega) hw fun t w hw => ⟨hw.swap.restTru2, t, ?_, ?_⟩
  · unfold encQ; rw [if_pos h]
  · unfold encQ; rw [if_pos h]
    exact hw.cons fun _ h => h.drop
end Go.Proofs.YtadnmnkbgjippaaGreatDoor
/- Package session: Decode, Read. Condition: bounds on lengths. -/
namespace Go.Proofs.YtadnmnkbgjippaaGreatDoor
set_option linter.unusedVariables false
open Go Go.VC
open Classical
variable {R : Cx} {Hs Rest : List HP} {w : World}
theorem snum_spec {r : Nat} {rd : Rd} (hb : Bytes rd.bs) (hw : Sat R (RdAt r rd :: Hs) w) :
    Gets Tryz.prog 27 #[.pointer (some ⟨r, 0, none⟩)] w fun v w' => v = .int .i64 (rdNum mI rd).1 ∧ Sat R (RdAt r (rdNum mI rd).2 :: Hs) w' := by
  have hv := rdNum_val (most := mI) hb (by decide)
  apply call27
  refine (rnum_spec (most := mI) hb hw).use ?_
  rintro _ w ⟨rfl, hw⟩
  refine ⟨_, rfl, ?_, hw⟩
  have : (rdNum mI rd).1 ≤ 1099511627776 := hv.2
  rw [wrap64 (by omega) (by omega)]
abbrev rqNew (b : Nat) : HP := rqC b zeroQ nilS
set_option maxHeartbeats 1000000 in
theorem sdec_spec {s : Sl} {bs : List Int} (hb : Bytes bs) (hl : bs.length ≤ 1099511627776) (hs : Ro R s (b8 bs)) (hw : Sat R Hs w) :
    Gets Tryz.prog 9 #[.slice s.a s.len s.cap] w fun v w' => ∃ t : Sl, v = .tuple #[.agg (rqV (rqDec mI bs).1 t).toArray, .int .i64 (rqDec mI bs).2] ∧ Sat R (Own t 5 (b8 (rqDec mI bs).1.cmd) :: Hs) w' := by
  apply call9
  have b0 : Bytes (⟨bs, false⟩ : Rd).bs := hb
  have l0 : (⟨bs, false⟩ : Rd).bs.length ≤ 1099511627776 := hl
  obtain ⟨rd0, e0⟩ : ∃ rd : Rd, rd = ⟨bs, false⟩ := ⟨_, rfl⟩
  rw [← e0] at b0 l0
  refine new_rule hw fun b2 w hw => ?_
  have hw : Sat R (rqNew b2 :: Hs) w := hw
  refine (fnew_spec hs hl hw).use ?_
  clear hw
  rintro _ w ⟨r, rfl, hw⟩
  refine ⟨_, rfl, ?_⟩
  rw [← e0] at hw
  have b1 := rdNum_bd (most := mI) b0
  have l1 : (rdNum mI rd0).2.bs.length ≤ 1099511627776 := Nat.le_trans rdNum_len l0
  obtain ⟨k, rd1, e1⟩ : ∃ y rd, rdNum mI rd0 = (y, rd) := ⟨_, _, rfl⟩
  refine (snum_spec b0 hw).use ?_
  clear hw
  rintro _ w ⟨rfl, hw⟩
  rw [e1] at b1 l1 hw ⊢
  dsimp only at b1 l1 hw ⊢
  refine ⟨_, rfl, ?_⟩
  have b2' := rdNum_bd (most := mI) b1
  have l2 : (rdNum mI rd1).2.bs.length ≤ 1099511627776 := Nat.le_trans rdNum_len l1
  obtain ⟨c, rd2, e2⟩ : ∃ y rd, rdNum mI rd1 = (y, rd) := ⟨_, _, rfl⟩
  refine (snum_spec b1 hw).use ?_
  clear hw
  rintro _ w ⟨rfl, hw⟩
  rw [e2] at b2' l2 hw ⊢
  dsimp only at b2' l2 hw ⊢
  refine ⟨_, rfl, ?_⟩
  have b3 := rdNum_bd (most := mI) b2'
  have l3 : (rdNum mI rd2).2.bs.length ≤ 1099511627776 := Nat.le_trans rdNum_len l2
  obtain ⟨q, rd3, e3⟩ : ∃ y rd, rdNum mI rd2 = (y, rd) := ⟨_, _, rfl⟩
  refine (snum_spec b2' hw).use ?_
  clear hw
  rintro _ w ⟨rfl, hw⟩
  rw [e3] at b3 l3 hw ⊢
  dsimp only at b3 l3 hw ⊢
  refine ⟨_, rfl, ?_⟩
  have b4 := rdNum_bd (most := mI) b3
  have l4 : (rdNum mI rd3).2.bs.length ≤ 1099511627776 := Nat.le_trans rdNum_len l3
  obtain ⟨t, rd4, e4⟩ : ∃ y rd, rdNum mI rd3 = (y, rd) := ⟨_, _, rfl⟩
  refine (snum_spec b3 hw).use ?_
  clear hw
  rintro _ w ⟨rfl, hw⟩
  rw [e4] at b4 l4 hw ⊢
  dsimp only at b4 l4 hw ⊢
  refine ⟨_, rfl, ?_⟩
  refine new_rule hw fun b w hw => ?_
  refine store_rule hw (by kernel_rfl) rfl (by simp [Value.cells]) fun w hw => ?_
  have hw : Sat R (RdAt r rd4 :: rqC b ⟨k, c, q, t, []⟩ nilS :: rqNew b2 :: Hs) w := (hw.re (rqC b ⟨k, c, q, t, []⟩ nilS)).swap
  have htl := rdText_len (most := 4000) (rd := rd4)
  obtain ⟨d, rd5, e5⟩ : ∃ y rd, rdText 4000 rd4 = (y, rd) := ⟨_, _, rfl⟩
  refine (rtext_spec (most := 4000) (by omega) l4 b4 hw).use ?_
  clear hw
  rintro _ w ⟨sd, rfl, hw⟩
  rw [e5] at hw htl
  dsimp only at hw htl
  refine ⟨sd, rfl, ?_⟩
  refine store_rule hw (by kernel_rfl) rfl (by simp [Value.cells]) fun w hw => ?_
  have hC : rqRd mI ⟨bs, false⟩ = (⟨k, c, q, t, d⟩, rd5) := by
    rw [← e0]
    unfold rqRd
    simp only [e1, e2, e3, e4, e5]
  obtain ⟨C, eC⟩ : ∃ C : Rq, C = ⟨k, c, q, t, d⟩ := ⟨_, rfl⟩
  have hw : Sat R (rqC b C sd :: Own sd 5 (b8 C.cmd) :: RdAt r rd5 :: rqNew b2 :: Hs) w := by rw [eC]; exact hw.re (rqC b ⟨k, c, q, t, d⟩ sd)
  rw [← eC] at hC
  have hdec : rqDec mI bs = if rdWhole rd5 = true ∧ RightQ C then (C, 0) else (zeroQ, 6) := by unfold rqDec; rw [hC]
  clear hC eC e0 e1 e2 e3 e4 e5 b0 b1 b2' b3 b4 l0 l1 l2 l3
  have hw : Sat R (RdAt r rd5 :: rqC b C sd :: Own sd 5 (b8 C.cmd) :: rqNew b2 :: Hs) w := hw.arr
  refine (whole_spec hw).use ?_
  clear hw
  rintro _ w ⟨rfl, hw⟩
  have no : rqDec mI bs = (zeroQ, 6) → ∀ {w}, Sat R (rqNew b2 :: Hs) w → ∃ t : Sl, Value.tuple #[.agg (rqV zeroQ nilS).toArray, .int .i64 6] = .tuple #[.agg (rqV (rqDec mI bs).1 t).toArray, .int .i64 (rqDec mI bs).2] ∧ Sat R (Own t 5 (b8 (rqDec mI bs).1.cmd) :: Hs) w := fun e {w} hw => by
    rw [e]
    exact ⟨nilS, rfl, Own.nil hw.drop⟩
  refine ⟨_, rfl, Br.nb (fun h => ?_) (fun h => ?_)⟩
  · have hw : Sat R (rqNew b2 :: Hs) w := hw.drop.drop.drop
    refine store_rule hw (by kernel_rfl) rfl (by simp [Value.cells]) fun w hw => ?_
    have hw := hw.re (rqNew b2)
    refine ⟨_, _, _, _, nilS, At.own (eqS hw) (by exact ⟨rfl, rfl, rfl, rfl, rfl, trivial⟩), no ?_ hw⟩
    rw [hdec, if_neg (by rintro ⟨h1, _⟩; rw [h1] at h; cases h)]
  refine ⟨C.kind, C.client, C.seq, C.token, sd, At.own (eqS hw) (by exact ⟨rfl, rfl, rfl, rfl, rfl, trivial⟩), ?_⟩
  have hsl : sd.len = C.cmd.length := by
    have := Own.len (hw.arr (Hs' := Own sd 5 (b8 C.cmd) :: RdAt r rd5 :: rqC b C sd :: rqNew b2 :: Hs))
    simpa using this
  refine (srightQ_spec hsl hw).use ?_
  clear hw
  rintro _ w ⟨rfl, hw⟩
  refine ⟨_, rfl, Br.nb (fun h2 => ?_) (fun h2 => ?_)⟩
  · have hw : Sat R (rqNew b2 :: Hs) w := hw.drop.drop.drop
    refine store_rule hw (by kernel_rfl) rfl (by simp [Value.cells]) fun w hw => ?_
    have hw := hw.re (rqNew b2)
    refine ⟨_, _, _, _, nilS, At.own (eqS hw) (by exact ⟨rfl, rfl, rfl, rfl, rfl, trivial⟩), no ?_ hw⟩
    rw [hdec, if_neg (by rintro ⟨_, h1⟩; rw [decide_eq_true h1] at h2; cases h2)]
  refine ⟨C.kind, C.client, C.seq, C.token, sd, At.own (eqS hw) (by exact ⟨rfl, rfl, rfl, rfl, rfl, trivial⟩), ?_⟩
  have hw : Sat R (rqNew b2 :: Own sd 5 (b8 C.cmd) :: RdAt r rd5 :: rqC b C sd :: Hs) w := hw.arr
  refine store_rule hw (by kernel_rfl) rfl (by simp [Value.cells]) fun w hw => ?_
  have hw := hw.re (rqC b2 C sd)
  refine ⟨C.kind, C.client, C.seq, C.token, sd, At.own (eqS hw) (by exact ⟨rfl, rfl, rfl, rfl, rfl, trivial⟩), ?_⟩
  rw [hdec, if_pos ⟨h, of_decide_eq_true h2⟩]
  exact ⟨sd, rfl, hw.drop.cons fun _ h => h.drop.drop⟩
abbrev tdNew (b : Nat) : HP := tdC b zeroT nilS
end Go.Proofs.YtadnmnkbgjippaaGreatDoor

/- The formulas of functions of this seat's translation, printed by a program of mine off the translation; each is proved equal to 'fnF' of the function's body, so it is enough for the call. No condition. -/
namespace Go.Proofs.YtadnmnkbgjippaaGreatDoor
open Go Go.VC
set_option linter.unusedVariables false
set_option maxRecDepth 10000
def B14 (a0_0 : Int) (a0_1 : Int) (a0_2 : Int) (a0_3 : Int) (a0_4 : Sl) (K : Value → World → Prop) (w : World) : Prop :=
  New (.cells #[.int .i64 a0_0, .int .i64 a0_1, .int .i64 a0_2, .int .i64 a0_3, .slice a0_4.a a0_4.len a0_4.cap] 24 (0, 0)) (fun b_a1 w_1 =>
  ∃ t6 : Int, ∃ t6_1 : Int, ∃ t6_2 : Int, ∃ t6_3 : Int, ∃ t6_4 : Sl, (At (fun w' => w' = w_1) ⟨b_a1, 0, none⟩ [.int .i64 t6, .int .i64 t6_1, .int .i64 t6_2, .int .i64 t6_3, .slice t6_4.a t6_4.len t6_4.cap]) ∧
  Calls Tryz.prog 7 #[.agg #[.int .i64 t6, .int .i64 t6_1, .int .i64 t6_2, .int .i64 t6_3, .slice t6_4.a t6_4.len t6_4.cap]] w_1 fun e w_2 =>
  ∃ t7 : Sl, ∃ t7_1 : Int, (e = .returned (.tuple #[.slice t7.a t7.len t7.cap, .int .i64 t7_1])) ∧
  K (.slice t7.a t7.len t7.cap) w_2) w
def sk14 : Sk := .leaf
theorem ok14 : fnOk Tryz.prog Tryz.f14.ntmps Tryz.f14 sk14 = true := by kernel_rfl
theorem eq14 (a0_0 : Int) (a0_1 : Int) (a0_2 : Int) (a0_3 : Int) (a0_4 : Sl) (K : Value → World → Prop) (w : World) : fnF Tryz.prog cl Tryz.f14 sk14 [.agg #[.int .i64 a0_0, .int .i64 a0_1, .int .i64 a0_2, .int .i64 a0_3, .slice a0_4.a a0_4.len a0_4.cap]] K w = B14 a0_0 a0_1 a0_2 a0_3 a0_4 K w := by kernel_rfl
theorem call14 (a0_0 : Int) (a0_1 : Int) (a0_2 : Int) (a0_3 : Int) (a0_4 : Sl) (K : Value → World → Prop) (w : World) (h : B14 a0_0 a0_1 a0_2 a0_3 a0_4 K w) : Gets Tryz.prog 14 #[.agg #[.int .i64 a0_0, .int .i64 a0_1, .int .i64 a0_2, .int .i64 a0_3, .slice a0_4.a a0_4.len a0_4.cap]] w K :=
  calls_of (sk := sk14) cl_ok mixed Tryz.func14 ok14 (args := [.agg #[.int .i64 a0_0, .int .i64 a0_1, .int .i64 a0_2, .int .i64 a0_3, .slice a0_4.a a0_4.len a0_4.cap]]) (Nat.le_of_ble_eq_true (by kernel_rfl)) (by rw [eq14]; exact h)
def B6  (K : Value → World → Prop) (w : World) : Prop :=
  Calls Tryz.prog 12 #[] w fun e w_1 =>
  ∃ t3 : Option Addr, (e = .returned (.pointer t3)) ∧
  Br t3.isNone
   (K (.bool false) w_1)
   (Calls Tryz.prog 14 #[.agg #[.int .i64 1, .int .i64 0, .int .i64 0, .int .i64 9, .slice none 0 0]] w_1 fun e_1 w_2 =>
    ∃ t8 : Sl, (e_1 = .returned (.slice t8.a t8.len t8.cap)) ∧
    Calls Tryz.prog 13 #[.pointer t3, .slice t8.a t8.len t8.cap] w_2 fun e_2 w_3 =>
    ∃ t9 : Int, ∃ t9_1 : Int, ∃ t9_2 : Int, ∃ t9_3 : Sl, (e_2 = .returned (.agg #[.int .i64 t9, .int .i64 t9_1, .int .i64 t9_2, .slice t9_3.a t9_3.len t9_3.cap])) ∧
    New (.cells #[.int .i64 0, .int .i64 0, .int .i64 0, .slice none 0 0] 39 (0, 0)) (fun b_x2 w_4 =>
    ∃ w_5 : World, ((Instr.storeAt 39 (.pointer ((some ⟨b_x2, 0, none⟩))) (.agg #[.int .i64 t9, .int .i64 t9_1, .int .i64 t9_2, .slice t9_3.a t9_3.len t9_3.cap])).run Tryz.prog w_4 = .ok () w_5) ∧
    ∃ t11 : Int, (At (fun w' => w' = w_5) ⟨b_x2, 0, none⟩ [.int .i64 t11]) ∧
    Br (t11 == 0)
     (∃ t15 : Int, (At (fun w' => w' = w_5) ⟨b_x2, 0 + 1, none⟩ [.int .i64 t15]) ∧
      K (.bool (t15 == 1)) w_5)
     (K (.bool false) w_5)) w_3)
def sk6 : Sk := .leaf
theorem ok6 : fnOk Tryz.prog Tryz.f6.ntmps Tryz.f6 sk6 = true := by kernel_rfl
theorem eq6  (K : Value → World → Prop) (w : World) : fnF Tryz.prog cl Tryz.f6 sk6 [] K w = B6  K w := by kernel_rfl
theorem call6  (K : Value → World → Prop) (w : World) (h : B6  K w) : Gets Tryz.prog 6 #[] w K :=
  calls_of (sk := sk6) cl_ok mixed Tryz.func6 ok6 (args := []) (Nat.le_of_ble_eq_true (by kernel_rfl)) (by rw [eq6]; exact h)
def B4 (tokens0 : Sl) (ends1 : Sl) (K : Value → World → Prop) (w : World) : Prop :=
  Calls Tryz.prog 6 #[] w fun e w_1 =>
  ∃ t14 : Bool, (e = .returned (.bool t14)) ∧
  Calls Tryz.prog 12 #[] w_1 fun e_1 w_2 =>
  ∃ t15 : Option Addr, (e_1 = .returned (.pointer t15)) ∧
  ∃ (J : World → Prop), (Br (!t14)
     (K (.bool false) w_2)
     (Br t15.isNone
       (K (.bool false) w_2)
       (J  w_2))) ∧
  ∀ (z : Env)  (w_3 : World), J  w_3 →
  New (.map #[] 0) (fun b_t22 w_4 =>
  ∃ (I : Int → Int → World → Prop) (μ : Int → Int → World → Nat), (I 0 0 w_4) ∧ ∀ (z_1 : Env) (last7 : Int) (i9 : Int) (w_5 : World), I last7 i9 w_5 →
  ∃ (J_1 : World → Prop), (Br (decide (i9 < (↑tokens0.len : Int)))
     (Br (decide (i9 < 60))
       (J_1  w_5)
       (K (.bool true) w_5))
     (K (.bool true) w_5)) ∧
  ∀ (z_2 : Env)  (w_6 : World), J_1  w_6 →
  ∃ (J_2 : World → Prop), (Rng i9 tokens0.len (NilP tokens0.a fun a_t35 =>
    ∃ t36 : Int, (At (fun w' => w' = w_6) (Addr.add a_t35 i9.toNat) [.int .i64 t36]) ∧
    Br (decide (t36 < 0))
     ((I last7 (IntKind.i64.wrap (i9 + 1)) w_6) ∧ μ last7 (IntKind.i64.wrap (i9 + 1)) w_6 < μ last7 i9 w_5)
     (Rng i9 tokens0.len (NilP tokens0.a fun a_t41 =>
      ∃ t42 : Int, (At (fun w' => w' = w_6) (Addr.add a_t41 i9.toNat) [.int .i64 t42]) ∧
      Br (decide (t42 > 1099511627776))
       ((I last7 (IntKind.i64.wrap (i9 + 1)) w_6) ∧ μ last7 (IntKind.i64.wrap (i9 + 1)) w_6 < μ last7 i9 w_5)
       (J_2  w_6))))) ∧
  ∀ (z_3 : Env)  (w_7 : World), J_2  w_7 →
  Rng i9 tokens0.len (NilP tokens0.a fun a_t48 =>
  ∃ t49 : Int, (At (fun w' => w' = w_7) (Addr.add a_t48 i9.toNat) [.int .i64 t49]) ∧
  Calls Tryz.prog 14 #[.agg #[.int .i64 1, .int .i64 0, .int .i64 0, .int .i64 t49, .slice none 0 0]] w_7 fun e_2 w_8 =>
  ∃ t51 : Sl, (e_2 = .returned (.slice t51.a t51.len t51.cap)) ∧
  Calls Tryz.prog 13 #[.pointer t15, .slice t51.a t51.len t51.cap] w_8 fun e_3 w_9 =>
  ∃ t52 : Int, ∃ t52_1 : Int, ∃ t52_2 : Int, ∃ t52_3 : Sl, (e_3 = .returned (.agg #[.int .i64 t52, .int .i64 t52_1, .int .i64 t52_2, .slice t52_3.a t52_3.len t52_3.cap])) ∧
  New (.cells #[.int .i64 0, .int .i64 0, .int .i64 0, .slice none 0 0] 39 (0, 0)) (fun b_x10 w_10 =>
  ∃ w_11 : World, ((Instr.storeAt 39 (.pointer ((some ⟨b_x10, 0, none⟩))) (.agg #[.int .i64 t52, .int .i64 t52_1, .int .i64 t52_2, .slice t52_3.a t52_3.len t52_3.cap])).run Tryz.prog w_10 = .ok () w_11) ∧
  Rng i9 tokens0.len (NilP tokens0.a fun a_t57 =>
  ∃ t58 : Int, (At (fun w' => w' = w_11) (Addr.add a_t57 i9.toNat) [.int .i64 t58]) ∧
  ∃ t59 : Int, ∃ t59_1 : Bool, (∀ w', (fun w' => w' = w_11) w' → ((Instr.lookup 37 (.map ((some b_t22))) (.int .i64 t58) true)).run Tryz.prog w' = .ok (.tuple #[.int .i64 t59, .bool t59_1]) w') ∧
  ∃ (J_3 : World → Prop), (∃ t63 : Int, (At (fun w' => w' = w_11) ⟨b_x10, 0, none⟩ [.int .i64 t63]) ∧
    Br (t63 != 0)
     (K (.bool false) w_11)
     (Br t59_1
       (∃ t69 : Int, (At (fun w' => w' = w_11) ⟨b_x10, 0 + 1, none⟩ [.int .i64 t69]) ∧
        Br (t69 != t59)
         (K (.bool false) w_11)
         (Br (!t59_1)
           (∃ t79 : Int, (At (fun w' => w' = w_11) ⟨b_x10, 0 + 1, none⟩ [.int .i64 t79]) ∧
            Br (decide (t79 ≤ last7))
             (K (.bool false) w_11)
             (J_3  w_11))
           (J_3  w_11)))
       (Br (!t59_1)
         (∃ t79_1 : Int, (At (fun w' => w' = w_11) ⟨b_x10, 0 + 1, none⟩ [.int .i64 t79_1]) ∧
          Br (decide (t79_1 ≤ last7))
           (K (.bool false) w_11)
           (J_3  w_11))
         (J_3  w_11)))) ∧
  ∀ (z_4 : Env)  (w_12 : World), J_3  w_12 →
  ∃ t86 : Int, (At (fun w' => w' = w_12) ⟨b_x10, 0 + 1, none⟩ [.int .i64 t86]) ∧
  Drw w_12 fun S w_13 =>
  Rng i9 tokens0.len (NilP tokens0.a fun a_t91 =>
  ∃ t92 : Int, (At S (Addr.add a_t91 i9.toNat) [.int .i64 t92]) ∧
  ∃ t94 : Int, (At S ⟨b_x10, 0 + 1, none⟩ [.int .i64 t94]) ∧
  ∃ w_14 : World, ((Instr.mapUpdate 37 (.map ((some b_t22))) (.int .i64 t92) (.int .i64 t94)).run Tryz.prog w_13 = .ok () w_14) ∧
  ∃ (J_4 : Bool → World → Prop), (Br (decide (i9 < (↑ends1.len : Int)))
     (Rng i9 ends1.len (NilP ends1.a fun a_t102 =>
      ∃ t103 : Bool, (At (fun w' => w' = w_14) (Addr.add a_t102 i9.toNat) [.bool t103]) ∧
      J_4 t103 w_14))
     (J_4 false w_14)) ∧
  ∀ (z_5 : Env) (t104 : Bool) (w_15 : World), J_4 t104 w_15 →
  Br t104
   (∃ t107 : Int, (At (fun w' => w' = w_15) ⟨b_x10, 0 + 1, none⟩ [.int .i64 t107]) ∧
    Calls Tryz.prog 14 #[.agg #[.int .i64 3, .int .i64 t107, .int .i64 0, .int .i64 0, .slice none 0 0]] w_15 fun e_4 w_16 =>
    ∃ t109 : Sl, (e_4 = .returned (.slice t109.a t109.len t109.cap)) ∧
    Calls Tryz.prog 13 #[.pointer t15, .slice t109.a t109.len t109.cap] w_16 fun e_5 w_17 =>
    ∃ t110 : Int, ∃ t110_1 : Int, ∃ t110_2 : Int, ∃ t110_3 : Sl, (e_5 = .returned (.agg #[.int .i64 t110, .int .i64 t110_1, .int .i64 t110_2, .slice t110_3.a t110_3.len t110_3.cap])) ∧
    New (.cells #[.int .i64 0, .int .i64 0, .int .i64 0, .slice none 0 0] 39 (0, 0)) (fun b_y13 w_18 =>
    ∃ w_19 : World, ((Instr.storeAt 39 (.pointer ((some ⟨b_y13, 0, none⟩))) (.agg #[.int .i64 t110, .int .i64 t110_1, .int .i64 t110_2, .slice t110_3.a t110_3.len t110_3.cap])).run Tryz.prog w_18 = .ok () w_19) ∧
    ∃ t112 : Int, (At (fun w' => w' = w_19) ⟨b_y13, 0, none⟩ [.int .i64 t112]) ∧
    Br (t112 != 0)
     (K (.bool false) w_19)
     (Rng i9 tokens0.len (NilP tokens0.a fun a_t117 =>
      ∃ t118 : Int, (At (fun w' => w' = w_19) (Addr.add a_t117 i9.toNat) [.int .i64 t118]) ∧
      ∃ w_20 : World, ((Builtin.delete_ #[37, 3] 0 #[.map ((some b_t22)), .int .i64 t118]).run Tryz.prog w_19 = .ok (.tuple #[]) w_20) ∧
      (I (if t86 > last7 then t86 else last7) (IntKind.i64.wrap (i9 + 1)) w_20) ∧ μ (if t86 > last7 then t86 else last7) (IntKind.i64.wrap (i9 + 1)) w_20 < μ last7 i9 w_5))) w_17)
   ((I (if t86 > last7 then t86 else last7) (IntKind.i64.wrap (i9 + 1)) w_15) ∧ μ (if t86 > last7 then t86 else last7) (IntKind.i64.wrap (i9 + 1)) w_15 < μ last7 i9 w_5)))) w_9)) w_3
def sk4 : Sk := (.seq .leaf (.seq .leaf (.seq .leaf (.cut [] [] [4, 16, 17, 18, 19, 20, 21] .leaf (.seq .leaf (.seq .leaf (.seq (.seq .leaf (.block (.loop [7, 9] [(.int .i64), (.int .i64)] [4, 7, 9, 10, 11, 12, 13, 23, 24, 25, 26, 27, 28, 29, 30, 31, 32, 33, 34, 35, 36, 37, 38, 39, 40, 41, 42, 43, 44, 45, 46, 47, 48, 49, 50, 51, 52, 53, 54, 55, 56, 57, 58, 59, 60, 61, 62, 63, 64, 65, 66, 67, 68, 69, 70, 71, 72, 73, 74, 75, 76, 77, 78, 79, 80, 81, 82, 83, 84, 85, 86, 87, 88, 89, 90, 91, 92, 93, 94, 95, 96, 97, 98, 99, 100, 101, 102, 103, 104, 105, 106, 107, 108, 109, 110, 111, 112, 113, 114, 115, 116, 117, 118] (.cut [] [] [23, 24, 25, 26, 27, 28, 29, 30] .leaf (.seq (.block (.cut [] [] [33, 34, 35, 36, 37, 38, 39, 40, 41, 42, 43, 44] .leaf (.seq .leaf (.seq .leaf (.cut [] [] [4, 62, 63, 64, 65, 66, 67, 68, 69, 70, 71, 72, 73, 74, 75, 76, 77, 78, 79, 80, 81, 82, 83] .leaf (.seq .leaf (.seq .leaf (.cut [104] [.bool] [95, 96, 97, 98, 99, 100, 101, 102, 103, 104] .leaf .leaf)))))))) .leaf))))) .leaf)))))))
theorem ok4 : fnOk Tryz.prog Tryz.f4.ntmps Tryz.f4 sk4 = true := by kernel_rfl
theorem eq4 (tokens0 : Sl) (ends1 : Sl) (K : Value → World → Prop) (w : World) : fnF Tryz.prog cl Tryz.f4 sk4 [.slice tokens0.a tokens0.len tokens0.cap, .slice ends1.a ends1.len ends1.cap] K w = B4 tokens0 ends1 K w := by kernel_rfl
theorem call4 (tokens0 : Sl) (ends1 : Sl) (K : Value → World → Prop) (w : World) (h : B4 tokens0 ends1 K w) : Gets Tryz.prog 4 #[.slice tokens0.a tokens0.len tokens0.cap, .slice ends1.a ends1.len ends1.cap] w K :=
  calls_of (sk := sk4) cl_ok mixed Tryz.func4 ok4 (args := [.slice tokens0.a tokens0.len tokens0.cap, .slice ends1.a ends1.len ends1.cap]) (Nat.le_of_ble_eq_true (by kernel_rfl)) (by rw [eq4]; exact h)
end Go.Proofs.YtadnmnkbgjippaaGreatDoor
/- Package session: the table in memory; a session begins. Condition: bounds. -/
namespace Go.Proofs.YtadnmnkbgjippaaGreatDoor
set_option linter.unusedVariables false
open Go Go.VC
open Classical
variable {R : Cx} {Hs Rest : List HP} {w : World}
abbrev CE := Nat × Int × Int
abbrev cliObj (tok : Int) : Obj := .cells [.int .i64 tok, .int .i64 0, .slice none 0 0].toArray 71 (0, 0)
def cliAt (e : CE) : HP := pts e.1 (cliObj e.2.2)
def clV (e : CE) : Int × Value := (e.2.1, .pointer (some ⟨e.1, 0, none⟩))
abbrev tblC (bk : Option Addr) (next : Int) (m : Nat) : Obj := .cells [.pointer bk, .int .i64 next, .map (some m)].toArray 65 (0, 0)
def TblAt (p : Nat) (next : Int) (E : List CE) : HP := exs fun m : Nat => exs fun bk : Option Addr => Star [pts p (tblC bk next m), MapAt m (E.map clV), Star (E.map cliAt)]
theorem Sat.tbl {p : Nat} {next : Int} {E : List CE} : Sat R (TblAt p next E :: Hs) w ↔ ∃ m bk, Sat R (pts p (tblC bk next m) :: MapAt m (E.map clV) :: Star (E.map cliAt) :: Hs) w := by
  unfold TblAt
  simp only [Sat.exs]
  exact ⟨fun ⟨m, b, h⟩ => ⟨m, b, Sat.star.1 h⟩, fun ⟨m, b, h⟩ => ⟨m, b, Sat.star.2 h⟩⟩
theorem star_mid {A : HP} {B C : List HP} : Sat R (Star (B ++ A :: C) :: Hs) w ↔ Sat R (A :: Star (B ++ C) :: Hs) w := by
  have key : ∀ (B : List HP) {R : Cx} {Hs : List HP}, Sat R (B ++ A :: Hs) w ↔ Sat R (A :: (B ++ Hs)) w := fun B => by
    induction B with
    | nil => exact fun {R Hs} => Iff.rfl
    | cons X B ih =>
      intro R Hs
      constructor
      · intro h
        have h : Sat R (X :: (B ++ A :: Hs)) w := h
        exact (h.cons fun _ h => ih.1 h).swap
      · intro h
        have h : Sat R (A :: X :: (B ++ Hs)) w := h
        exact (h.swap.cons fun _ h => ih.2 h)
  rw [Sat.star, List.append_assoc, List.cons_append, key B]
  constructor
  · intro h
    exact h.cons fun _ h => Sat.star.2 (by rw [List.append_assoc]; exact h)
  · intro h
    refine h.cons fun _ h => ?_
    have := Sat.star.1 h
    rwa [List.append_assoc] at this
abbrev cMap : MapT Tryz.prog 63 Int 3 68 (.pointer none) := ⟨Tryz.underlying63, Tryz.underlying3, Tryz.zeroValue68⟩
theorem getM_ne {β : Type} {k : Int} : ∀ {l : List (Int × β)}, getM k l = none ↔ ∀ e ∈ l, e.1 ≠ k
  | [] => ⟨fun _ _ h => (by cases h), fun _ => rfl⟩
  | e :: l => by
    rw [getM]
    by_cases h : k = e.1
    · rw [if_pos (by simpa using h)]
      exact ⟨fun h2 => (by cases h2), fun h2 => absurd h.symm (h2 e (by simp))⟩
    · rw [if_neg (by simpa using h), getM_ne]
      exact ⟨fun h2 x hx => by
        rcases List.mem_cons.1 hx with h1 | h1
        · rw [h1]; exact fun e => h e.symm
        · exact h2 x h1, fun h2 x hx => h2 x (by simp [hx])⟩
structure TblOk (next : Int) (E : List CE) : Prop where
  nx : 1 ≤ next ∧ next < 1000000
  lt : ∀ e ∈ E, 1 ≤ e.2.1 ∧ e.2.1 < next
  ids : (E.map fun e => e.2.1).Nodup
theorem ids_inj {E : List CE} (h : (E.map fun e => e.2.1).Nodup) {a b : CE} (ha : a ∈ E) (hb : b ∈ E) (e : a.2.1 = b.2.1) : a = b := by
  induction E with
  | nil => cases ha
  | cons x E ih =>
    rw [List.map_cons, List.nodup_cons] at h
    rcases List.mem_cons.1 ha with h1 | h1
    · rcases List.mem_cons.1 hb with h2 | h2
      · rw [h1, h2]
      · exact absurd (List.mem_map.2 ⟨b, h2, by rw [← e, h1]⟩) h.1
    · rcases List.mem_cons.1 hb with h2 | h2
      · exact absurd (List.mem_map.2 ⟨a, h1, by rw [e, h2]⟩) h.1
      · exact ih h.2 h1 h2
set_option maxHeartbeats 1000000 in
theorem sbegin_spec {p : Nat} {next tok : Int} {E : List CE} (ok : TblOk next E) (hE : E.length < 64) (hw : Sat R (TblAt p next E :: Hs) w) :
    Gets Tryz.prog 35 #[.pointer (some ⟨p, 0, none⟩), .int .i64 tok] w fun v w' =>
      (∃ e ∈ E, e.2.2 = tok ∧ v = .agg (tdV ⟨0, e.2.1, 0, []⟩ nilS).toArray ∧ Sat R (TblAt p next E :: Hs) w') ∨
      ((∀ e ∈ E, e.2.2 ≠ tok) ∧ ∃ c, v = .agg (tdV ⟨0, next, 0, []⟩ nilS).toArray ∧ Sat R (TblAt p (next + 1) (E ++ [(c, next, tok)]) :: Hs) w') := by
  obtain ⟨m, bk, hw⟩ := Sat.tbl.1 hw
  have hnx := ok.nx
  apply call35
  refine new_rule hw fun b4 w hw => ?_
  have hw : Sat R (MapAt m (E.map clV) :: pts p (tblC bk next m) :: Star (E.map cliAt) :: tdNew b4 :: Hs) w := by
    have hw : Sat R (tdNew b4 :: pts p (tblC bk next m) :: MapAt m (E.map clV) :: Star (E.map cliAt) :: Hs) w := hw
    exact hw.arr
  refine NilP.mk rfl ⟨some m, At.own (eqS hw) (by exact ⟨rfl, trivial⟩), ?_⟩
  refine range_rule Tryz.underlying63 hw fun r w hw => ?_
  refine ⟨fun w => ∃ left : List (Int × Value), (∀ e ∈ E, e.2.2 = tok → clV e ∈ left) ∧ (∀ x ∈ left, x ∈ E.map clV) ∧ Sat R (ItAt r m (E.map clV) left :: pts p (tblC bk next m) :: Star (E.map cliAt) :: tdNew b4 :: Hs) w, itLeft r m, ⟨_, fun e he _ => List.mem_map.2 ⟨e, he, rfl⟩, fun x hx => hx, hw⟩, ?_⟩
  clear hw
  rintro _ w ⟨left, hall, hin, hw⟩
  have hlen := itLeft_eq hw
  rcases next_cases (P := Tryz.prog) (T := 0) hw with ⟨rfl, hrun⟩ | ⟨a, k, v, b, w', rfl, hrun, hent, hw'⟩
  · refine ⟨w, .inl ⟨hrun, ?_⟩⟩
    have hno : ∀ e ∈ E, e.2.2 ≠ tok := fun e he h => by have := hall e he h; cases this
    have hw := ItAt.map hw
    refine NilP.mk rfl ⟨some m, At.own (eqS hw) (by exact ⟨rfl, trivial⟩), ((E.map clV).length : Int), fun w' e => ?_, ?_⟩
    · rw [show w' = w from e]
      exact MapAt.len (by kernel_rfl) hw
    rw [List.length_map]
    refine Br.d (fun h => by omega) (fun _ => ?_)
    refine drw_rule hw fun w hw => ?_
    refine NilP.mk rfl ⟨some m, At.own selfS (by exact ⟨rfl, trivial⟩), NilP.mk rfl ⟨next, At.own selfS (by exact ⟨rfl, trivial⟩), ?_⟩⟩
    refine new_rule hw fun c w hw => ⟨hw.drop, ?_⟩
    have hw : Sat R (pts c (cliObj tok) :: MapAt m (E.map clV) :: pts p (tblC bk next m) :: Star (E.map cliAt) :: tdNew b4 :: Hs) w := hw
    refine MapAt.put cMap hw.swap next (.pointer (some ⟨c, 0, none⟩)) fun w hw => ?_
    have hput : putM next (.pointer (some ⟨c, 0, none⟩)) (E.map clV) = (E ++ [(c, next, tok)]).map clV := by
      unfold putM
      have : getM next (E.map clV) = none := getM_ne.2 fun x hx => by
        obtain ⟨e, he, rfl⟩ := List.mem_map.1 hx
        have := ok.lt e he
        show e.2.1 ≠ next
        omega
      rw [this]
      simp [clV]
    rw [hput] at hw
    have hw : Sat R (pts p (tblC bk next m) :: MapAt m ((E ++ [(c, next, tok)]).map clV) :: pts c (cliObj tok) :: Star (E.map cliAt) :: tdNew b4 :: Hs) w := hw.arr
    refine NilP.mk rfl ⟨next, At.own (eqS hw) (by exact ⟨rfl, trivial⟩), NilP.mk rfl ?_⟩
    rw [wrap64 (by omega) (by omega)]
    refine store_rule hw (by kernel_rfl) rfl (by simp [Value.cells]) fun w hw => ?_
    have hw := hw.re (pts p (tblC bk (next + 1) m))
    refine NilP.mk rfl ⟨next + 1, At.own (eqS hw) (by exact ⟨rfl, trivial⟩), ?_⟩
    rw [wrap64 (by omega) (by omega), show next + 1 - 1 = next by omega]
    refine store_rule hw (by kernel_rfl) rfl (by simp [Value.cells]) fun w hw => ?_
    have hw := hw.re (tdC b4 ⟨0, next, 0, []⟩ nilS)
    refine ⟨0, next, 0, nilS, At.own (eqS hw) (by exact ⟨rfl, rfl, rfl, rfl, trivial⟩), .inr ⟨hno, c, rfl, Sat.tbl.2 ⟨m, bk, ?_⟩⟩⟩
    have hw : Sat R (pts p (tblC bk (next + 1) m) :: MapAt m ((E ++ [(c, next, tok)]).map clV) :: pts c (cliObj tok) :: Star (E.map cliAt) :: Hs) w := hw.drop
    refine hw.cons fun _ h => h.cons fun _ h => ?_
    have e5 : (E ++ [(c, next, tok)]).map cliAt = E.map cliAt ++ cliAt (c, next, tok) :: [] := by simp
    rw [e5]
    refine star_mid.2 ?_
    rw [List.append_nil]
    exact h
  · obtain ⟨e, he, hkv⟩ := List.mem_map.1 (hin (k, v) (by simp))
    have hk : e.2.1 = k := congrArg Prod.fst hkv
    have hv : Value.pointer (some ⟨e.1, 0, none⟩) = v := congrArg Prod.snd hkv
    subst hk hv
    refine ⟨w', .inr ⟨_, _, hrun, e.2.1, some ⟨e.1, 0, none⟩, fun w2 h2 => by rw [show w2 = w' from h2]; exact hent, NilP.mk rfl ?_⟩⟩
    obtain ⟨A, C, hAC⟩ := List.append_of_mem he
    have hS : ∀ w2, (fun w2 => w2 = w') w2 → Sat R (pts e.1 (cliObj e.2.2) :: Star (A.map cliAt ++ C.map cliAt) :: ItAt r m (E.map clV) (a ++ b) :: pts p (tblC bk next m) :: tdNew b4 :: Hs) w2 := fun w2 h2 => by
      rw [show w2 = w' from h2]
      have h3 : Sat R (Star (E.map cliAt) :: ItAt r m (E.map clV) (a ++ b) :: pts p (tblC bk next m) :: tdNew b4 :: Hs) w' := hw'.arr
      have e5 : E.map cliAt = A.map cliAt ++ cliAt e :: C.map cliAt := by rw [hAC]; simp
      rw [e5] at h3
      exact star_mid.1 h3
    refine ⟨e.2.2, At.own (b := e.1) hS (by exact ⟨rfl, trivial⟩), Br.e (fun ht => ?_) (fun ht => ?_)⟩
    · refine store_rule hw' (by kernel_rfl) rfl (by simp [Value.cells]) fun w hw => ?_
      have hw := hw.re (tdC b4 ⟨0, e.2.1, 0, []⟩ nilS)
      refine ⟨0, e.2.1, 0, nilS, At.own (eqS hw) (by exact ⟨rfl, rfl, rfl, rfl, trivial⟩), .inl ⟨e, he, ht, rfl, ?_⟩⟩
      have hw : Sat R (ItAt r m (E.map clV) (a ++ b) :: pts p (tblC bk next m) :: Star (E.map cliAt) :: Hs) w := hw.drop
      exact Sat.tbl.2 ⟨m, bk, (ItAt.map hw).swap⟩
    · have hlen' := itLeft_eq hw'
      refine ⟨⟨a ++ b, fun e0 he0 h0 => ?_, fun x hx => hin x ?_, hw'⟩, ?_⟩
      · have h1 := hall e0 he0 h0
        rcases List.mem_append.1 h1 with h1 | h1
        · exact List.mem_append.2 (.inl h1)
        · rcases List.mem_cons.1 h1 with h1 | h1
          · have : e0 = e := ids_inj ok.ids he0 he (show (clV e0).1 = (clV e).1 from congrArg Prod.fst h1)
            rw [this] at h0
            exact absurd h0 ht
          · exact List.mem_append.2 (.inr h1)
      · rcases List.mem_append.1 hx with h1 | h1
        · exact List.mem_append.2 (.inl h1)
        · exact List.mem_append.2 (.inr (List.mem_cons_of_mem _ h1))
      · rw [hlen, hlen']
        simp
end Go.Proofs.YtadnmnkbgjippaaGreatDoor
/- Package session: Apply of a request that begins, or ends, a session; awake. Condition: bounds. -/
namespace Go.Proofs.YtadnmnkbgjippaaGreatDoor
set_option linter.unusedVariables false
open Go Go.VC
open Classical
variable {R : Cx} {Hs Rest : List HP} {w : World}
def begQ (tok : Int) : Rq := ⟨1, 0, 0, tok, []⟩
def endQ (id : Int) : Rq := ⟨3, id, 0, 0, []⟩
theorem begQ_right {tok : Int} (h : inI tok) : RightQ (begQ tok) := ⟨⟨Int.le_refl 0, by show (0 : Int) ≤ 1099511627776; omega⟩, ⟨Int.le_refl 0, by show (0 : Int) ≤ 1099511627776; omega⟩, h, by show 0 ≤ 4000; omega, .inl ⟨rfl, rfl, rfl, rfl⟩⟩
theorem endQ_right {id : Int} (h : inI id) : RightQ (endQ id) := ⟨h, ⟨Int.le_refl 0, by show (0 : Int) ≤ 1099511627776; omega⟩, ⟨Int.le_refl 0, by show (0 : Int) ≤ 1099511627776; omega⟩, by show 0 ≤ 4000; omega, .inr (.inr (.inl ⟨rfl, rfl, rfl, rfl⟩))⟩
theorem bnewL_spec (hw : Sat R Hs w) : Gets Tryz.prog 33 #[] w fun v w' => ∃ p, v = .pointer (some ⟨p, 0, none⟩) ∧ Sat R Hs w' := by
  apply call33
  exact new_rule hw fun m1 w hw => new_rule hw fun m2 w hw => new_rule hw fun p w hw => ⟨p, rfl, hw.drop.drop.drop⟩
theorem snew_spec (hw : Sat R Hs w) : Gets Tryz.prog 12 #[] w fun v w' => ∃ p, v = .pointer (some ⟨p, 0, none⟩) ∧ Sat R (TblAt p 1 [] :: Hs) w' := by
  apply call12
  refine (bnewL_spec hw).use ?_
  rintro _ w ⟨p0, rfl, hw⟩
  refine ⟨_, rfl, new_rule hw fun m w hw => ?_⟩
  have hw := MapAt.new (α := Int) rfl hw
  refine new_rule hw fun p w hw => ⟨p, rfl, Sat.tbl.2 ⟨m, some ⟨p0, 0, none⟩, ?_⟩⟩
  exact hw.cons fun _ h => h.cons fun _ h => Sat.star.2 h
theorem encoded_spec {q : Rq} {s : Sl} (hs : Ro R s (b8 q.cmd)) (hw : Sat R Hs w) :
    Gets Tryz.prog 14 #[.agg #[.int .i64 q.kind, .int .i64 q.client, .int .i64 q.seq, .int .i64 q.token, .slice s.a s.len s.cap]] w fun v w' => ∃ t : Sl, v = .slice t.a t.len t.cap ∧ Sat R (Own t 5 (b8 (encQ q).1) :: Hs) w' := by
  apply call14
  refine new_rule hw fun b w hw => ?_
  have hw : Sat R (rqC b q s :: Hs) w := hw
  refine ⟨q.kind, q.client, q.seq, q.token, s, At.own (eqS hw) (by exact ⟨rfl, rfl, rfl, rfl, rfl, trivial⟩), ?_⟩
  refine (senc_spec hs hw).use ?_
  clear hw
  rintro _ w ⟨t, rfl, hw⟩
  exact ⟨t, _, rfl, t, rfl, hw.cons fun _ h => h.drop⟩
theorem rqB_bytes {q : Rq} (h : RightQ q) (hc : Bytes q.cmd) : Bytes (rqB q) := by
  have h1 := h.k4
  obtain ⟨a1, a2⟩ := h.client
  obtain ⟨a3, a4⟩ := h.seq
  obtain ⟨a5, a6⟩ := h.token
  have h2 := h.cmd
  intro y hy
  unfold rqB at hy
  rcases List.mem_append.1 hy with hy | hy
  · refine numsB_bd (l := [q.kind, q.client, q.seq, q.token]) (fun x hx => ?_) y hy
    simp only [List.mem_cons, List.not_mem_nil, or_false] at hx
    rcases hx with rfl | rfl | rfl | rfl <;> omega
  · unfold textB at hy
    rcases List.mem_append.1 hy with hy | hy
    · exact numB_bd (n := q.cmd.length) (by omega) y hy
    · exact hc y hy
set_option maxHeartbeats 1000000 in
theorem sapplyB_spec {p : Nat} {next tok : Int} {E : List CE} {s : Sl} (ok : TblOk next E) (hE : E.length < 64) (ht : inI tok) (hs : Ro R s (b8 (rqB (begQ tok)))) (hw : Sat R (TblAt p next E :: Hs) w) :
    Gets Tryz.prog 13 #[.pointer (some ⟨p, 0, none⟩), .slice s.a s.len s.cap] w fun v w' =>
      (∃ e ∈ E, e.2.2 = tok ∧ v = .agg (tdV ⟨0, e.2.1, 0, []⟩ nilS).toArray ∧ Sat R (TblAt p next E :: Hs) w') ∨
      ((∀ e ∈ E, e.2.2 ≠ tok) ∧ ∃ c, v = .agg (tdV ⟨0, next, 0, []⟩ nilS).toArray ∧ Sat R (TblAt p (next + 1) (E ++ [(c, next, tok)]) :: Hs) w') := by
  have hr := begQ_right ht
  have hlen := rqB_len hr
  apply call13
  refine new_rule hw fun b4 w hw => ?_
  have hw : Sat R (tdNew b4 :: TblAt p next E :: Hs) w := hw
  refine (sdec_spec (rqB_bytes hr (fun _ h => by cases h)) (by omega) hs hw).use ?_
  clear hw
  rintro _ w ⟨t, rfl, hw⟩
  rw [rqDec_back hr] at hw ⊢
  have hw := hw.drop
  refine ⟨1, 0, 0, tok, t, 0, rfl, ?_⟩
  refine new_rule hw fun b5 w hw => ?_
  refine store_rule hw (by kernel_rfl) rfl (by simp [Value.cells]) fun w hw => ?_
  have hw := hw.re (rqC b5 (begQ tok) t)
  refine Br.ne (fun h => absurd rfl h) (fun _ => ?_)
  refine ⟨1, At.own (eqS hw) (by exact ⟨rfl, trivial⟩), Br.e (fun h => by cases h) (fun _ => ?_)⟩
  refine ⟨1, At.own (eqS hw) (by exact ⟨rfl, trivial⟩), Br.e (fun _ => ?_) (fun h => absurd rfl h)⟩
  refine ⟨tok, At.own (eqS hw) (by exact ⟨rfl, trivial⟩), ?_⟩
  have hw : Sat R (TblAt p next E :: tdNew b4 :: rqC b5 (begQ tok) t :: Hs) w := hw.arr
  refine (sbegin_spec (tok := tok) ok hE hw).use ?_
  clear hw
  rintro _ w (⟨e, he, het, rfl, hw⟩ | ⟨hno, c, rfl, hw⟩)
  · refine ⟨0, e.2.1, 0, nilS, rfl, ?_⟩
    refine store_rule hw (by kernel_rfl) rfl (by simp [Value.cells]) fun w hw => ?_
    have hw := hw.re (tdC b4 ⟨0, e.2.1, 0, []⟩ nilS)
    refine ⟨0, e.2.1, 0, nilS, At.own (eqS hw) (by exact ⟨rfl, rfl, rfl, rfl, trivial⟩), .inl ⟨e, he, het, rfl, ?_⟩⟩
    exact hw.drop.cons fun _ h => h.drop
  · refine ⟨0, next, 0, nilS, rfl, ?_⟩
    refine store_rule hw (by kernel_rfl) rfl (by simp [Value.cells]) fun w hw => ?_
    have hw := hw.re (tdC b4 ⟨0, next, 0, []⟩ nilS)
    refine ⟨0, next, 0, nilS, At.own (eqS hw) (by exact ⟨rfl, rfl, rfl, rfl, trivial⟩), .inr ⟨hno, c, rfl, ?_⟩⟩
    exact hw.drop.cons fun _ h => h.drop
theorem ok_new : TblOk 1 [] := ⟨⟨by omega, by omega⟩, fun _ h => (by cases h), List.nodup_nil⟩
theorem aw19_spec (hw : Sat R Hs w) : Gets Tryz.prog 6 #[] w fun v w' => v = .bool true ∧ Sat R Hs w' := by
  apply call6
  refine (snew_spec hw).use ?_
  clear hw
  rintro _ w ⟨p, rfl, hw⟩
  refine ⟨_, rfl, Br.f rfl ?_⟩
  have h9 : inI 9 := ⟨by omega, by omega⟩
  refine (encoded_spec (q := begQ 9) (s := nilS) ⟨rfl, by show 0 ≤ 9223372036854775807; omega, fun h => absurd rfl h⟩ hw).use ?_
  clear hw
  rintro _ w ⟨t, rfl, hw⟩
  have he : (encQ (begQ 9)).1 = rqB (begQ 9) := by unfold encQ; rw [if_pos (begQ_right h9)]
  rw [he] at hw
  have hlen := rqB_len (begQ_right h9)
  obtain ⟨R1, e1, g1, hw⟩ := Own.leak hw
  refine ⟨t, rfl, ?_⟩
  refine (sapplyB_spec ok_new (by show 0 < 64; omega) h9 (g1.ro (by rw [List.length_map]; omega)) hw).use ?_
  clear hw
  rintro _ w (⟨e, he, _⟩ | ⟨_, c, rfl, hw⟩)
  · cases he
  refine ⟨0, 1, 0, nilS, rfl, ?_⟩
  refine new_rule hw fun b w hw => ?_
  refine store_rule hw (by kernel_rfl) rfl (by simp [Value.cells]) fun w hw => ?_
  have hw := hw.re (tdC b ⟨0, 1, 0, []⟩ nilS)
  refine ⟨0, At.own (eqS hw) (by exact ⟨rfl, trivial⟩), Br.e (fun _ => ?_) (fun h => absurd rfl h)⟩
  exact ⟨1, At.own (eqS hw) (by exact ⟨rfl, trivial⟩), rfl, e1.back hw.drop.drop⟩
end Go.Proofs.YtadnmnkbgjippaaGreatDoor

