/- SL, part 3: rules for stores, for a slice that one owns, for append. Condition of the last: a bound on the new length. -/
import Derived.Test.YtfgbbckfikiomaaGreatDoorB1
import Derived.Deep.AppendSrc
import Derived.Deep.DeepAppendWide
import Derived.Laws.AppendOwn
import Derived.Laws.IdiomCopy
import Derived.Sort.Grow
import Derived.Lib.SliceRun
import GoSem.Instr.MapUpdate
import GoSem.Builtin.Delete
import Derived.MapKept
import Derived.Lib.ConvBytes
import Derived.Laws.BytesArg
import Derived.Laws.Strings
import Derived.Below
import Derived.Sort.KeysCollected
import Derived.Maps.Own
import Derived.Laws.BitsAllLaws
import Derived.Lib.BitFns
import Derived.KernelRfl
import Derived.Lib.AppendZeros
import Derived.Laws.RangeAny
import Derived.Laws.MakeOwn
import GoSem.Core.Float
import Derived.Laws.Externs
namespace Go.VC
set_option linter.unusedVariables false
def putL : List Value → Nat → List Value → List Value
  | l, _, [] => l
  | l, o, v :: vs => putL (l.set o v) (o + 1) vs
theorem putL_len : ∀ (vs l : List Value) (o : Nat), (putL l o vs).length = l.length
  | [], _, _ => rfl
  | _ :: vs, l, o => by rw [putL, putL_len vs, List.length_set]
theorem putL_eq : ∀ (vs l : List Value) (o : Nat), o + vs.length ≤ l.length → putL l o vs = l.take o ++ vs ++ l.drop (o + vs.length)
  | [], l, o, _ => by simp [putL]
  | v :: vs, l, o, h => by
    simp only [List.length_cons] at h
    rw [putL, putL_eq vs (l.set o v) (o + 1) (by simp; omega)]
    have e1 : (l.set o v).take (o + 1) = l.take o ++ [v] := by
      rw [List.take_succ_eq_append_getElem (by simp; omega)]
      simp [List.take_set_of_le]
    have e2 : (l.set o v).drop (o + 1 + vs.length) = l.drop (o + (vs.length + 1)) := by
      rw [List.drop_set_of_lt (by omega)]; congr 1; omega
    rw [e1, e2]; simp
theorem setCell_block {w : World} {b o : Nat} {l : List Value} {T : TypeId} {fr : Nat × Nat} (h : w.heap[b]? = some (.cells l.toArray T fr)) (v : Value) :
    w.setCell ⟨b, o, none⟩ v = w.setBlock b (.cells (l.set o v).toArray T fr) := by
  unfold World.setCell World.setBlock
  congr 1
  apply Array.ext_getElem?
  intro i
  rw [Array.getElem?_modify, Array.getElem?_setIfInBounds]
  by_cases hi : b = i
  · subst hi
    obtain ⟨hlt, hg⟩ := Array.getElem?_eq_some_iff.1 h
    simp [hlt, hg]
  · simp [hi]
theorem setCells_sat {R : Cx} {Hs : List HP} {b : Nat} {T : TypeId} {fr : Nat × Nat} : ∀ (vs l : List Value) (o : Nat) (w : World), Sat R (pts b (.cells l.toArray T fr) :: Hs) w →
    Sat R (pts b (.cells (putL l o vs).toArray T fr) :: Hs) (w.setCells b o vs)
  | [], _, _, _, h => h
  | v :: vs, l, o, w, h => by
    rw [World.setCells, setCell_block h.at, putL]
    exact setCells_sat vs (l.set o v) (o + 1) _ (h.setPts _)
def okFr (n : Nat) (fr : Nat × Nat) : Prop := fr.2 = 0 ∨ n ≤ fr.1
theorem okFr.le {n m : Nat} {fr : Nat × Nat} (h : okFr n fr) (hm : m ≤ n) : okFr m fr := h.imp id fun h => Nat.le_trans hm h
theorem frozen_no {w : World} {b : Nat} {l : Array Value} {T : TypeId} {fr : Nat × Nat} {n : Nat} (h : w.heap[b]? = some (.cells l T fr)) (hf : okFr n fr) {i : Nat} (hi : i < n) : w.frozen? ⟨b, i, none⟩ = false := by
  obtain ⟨lo, hi'⟩ := fr
  simp only [World.frozen?, h]
  rcases hf with hf | hf <;> simp only at hf <;> simp <;> omega
def oneAll (vs : List Value) : Bool := vs.all (·.oneCell')
theorem store_rule {P : Program} {R : Cx} {Hs Rest : List HP} {w : World} {b o : Nat} {l : List Value} {T t : TypeId} {fr : Nat × Nat} {v : Value} {K : World → Prop}
    (hw : Sat R Hs w) [tk : TakeP b Hs (.cells l.toArray T fr) Rest] (hsz : (P.info? t).map (·.size) = some v.cells.toList.length) (h1 : oneAll v.cells.toList = true) (hb : o + v.cells.toList.length ≤ l.length)
    (k : ∀ w', Sat R (pts b (.cells (putL l o v.cells.toList).toArray T fr) :: Rest) w' → K w') (hfr : okFr l.length fr := by first | assumption | exact Or.inl rfl) :
    ∃ w', (Instr.storeAt t (.pointer (some ⟨b, o, none⟩)) v).run P w = .ok () w' ∧ K w' := by
  have hp := hw.takeP tk
  have hat := hp.at
  obtain ⟨i, hi, hsz⟩ := Option.map_eq_some_iff.1 hsz
  refine ⟨w.setCells b o v.cells.toList, ?_, k _ (setCells_sat _ _ _ _ hp)⟩
  have hst := run_storeCells_cells (P := P) b o v.cells.toList 0 w (fun j hj => by
      simp only [Nat.add_zero]
      rw [cell_of hat]; simp; omega) (fun j hj => frozen_no hat hfr (by omega)) (fun u hu => List.all_eq_true.1 h1 u hu)
  simp only [Nat.add_zero] at hst
  simp [Instr.storeAt, Instr.sureAddr, storeVar, sizeOf, typeInfo, hi, hsz, hst]
def Own (s : Sl) (T : TypeId) (xs : List Value) : HP := fun h =>
  (s = ⟨none, 0, 0⟩ ∧ xs = [] ∧ h = Heap.none) ∨ ∃ b rest fr, s = ⟨some ⟨b, 0, none⟩, xs.length, (xs ++ rest).length⟩ ∧ okFr (xs ++ rest).length fr ∧ h = Heap.one b (.cells (xs ++ rest).toArray T fr)
theorem Own.nil {R : Cx} {Hs : List HP} {w : World} {T : TypeId} (h : Sat R Hs w) : Sat R (Own ⟨none, 0, 0⟩ T [] :: Hs) w :=
  ⟨Heap.none, .inl ⟨rfl, rfl, rfl⟩, fun i hi => absurd rfl hi, by rw [Cx.add_none]; exact h⟩
theorem Own.of_pts {R : Cx} {Hs : List HP} {w : World} {T : TypeId} {b : Nat} {fr : Nat × Nat} {xs rest : List Value} (h : Sat R (pts b (.cells (xs ++ rest).toArray T fr) :: Hs) w) (hf : okFr (xs ++ rest).length fr := by first | assumption | exact Or.inl rfl) :
    Sat R (Own ⟨some ⟨b, 0, none⟩, xs.length, (xs ++ rest).length⟩ T xs :: Hs) w :=
  let ⟨a, ha, hd, hs⟩ := h; ⟨a, .inr ⟨b, rest, fr, rfl, hf, ha⟩, hd, hs⟩
theorem Own.cases {R : Cx} {Hs : List HP} {w : World} {T : TypeId} {s : Sl} {xs : List Value} (h : Sat R (Own s T xs :: Hs) w) :
    (s = ⟨none, 0, 0⟩ ∧ xs = [] ∧ Sat R Hs w) ∨ ∃ b rest fr, s = ⟨some ⟨b, 0, none⟩, xs.length, (xs ++ rest).length⟩ ∧ okFr (xs ++ rest).length fr ∧ Sat R (pts b (.cells (xs ++ rest).toArray T fr) :: Hs) w := by
  obtain ⟨a, ha, hd, hs⟩ := h
  rcases ha with ⟨h1, h2, rfl⟩ | ⟨b, rest, fr, h1, hf, rfl⟩
  · rw [Cx.add_none] at hs; exact .inl ⟨h1, h2, hs⟩
  · exact .inr ⟨b, rest, fr, h1, hf, _, rfl, hd, hs⟩
theorem Own.len {R : Cx} {Hs : List HP} {w : World} {T : TypeId} {s : Sl} {xs : List Value} (h : Sat R (Own s T xs :: Hs) w) : s.len = xs.length := by
  rcases Own.cases h with ⟨rfl, rfl, _⟩ | ⟨b, rest, fr, rfl, _, _⟩ <;> rfl
theorem Own.lend {R : Cx} {Hs : List HP} {w : World} {T : TypeId} {s : Sl} {xs : List Value} (h : Sat R (Own s T xs :: Hs) w) (hb : xs.length ≤ 9223372036854775807) :
    ∃ R' : Cx, Ro R' s xs ∧ (∀ s' xs', Ro R s' xs' → Ro R' s' xs') ∧ Sat R' Hs w ∧ ∀ {Hs' w'}, Sat R' Hs' w' → Sat R (Own s T xs :: Hs') w' := by
  rcases Own.cases h with ⟨rfl, rfl, h2⟩ | ⟨b, rest, fr, rfl, hf, h2⟩
  · exact ⟨R, ⟨rfl, by simp, fun h => absurd rfl h⟩, fun _ _ h => h, h2, fun h => Own.nil h⟩
  · obtain ⟨hn, h3⟩ := Sat.lend.1 h2
    refine ⟨_, ⟨rfl, hb, fun _ => ⟨b, 0, _, T, fr, rfl, Cx.lent hn, fun i v hv => ?_⟩⟩, fun _ _ h => h.add, h3, fun h => Own.of_pts (Sat.lend.2 ⟨hn, h⟩)⟩
    obtain ⟨hi, rfl⟩ := List.getElem?_eq_some_iff.1 hv
    simp [List.getElem?_append_left hi]
def elB (P : Program) (T : TypeId) (bytes : Nat) : Bool :=
  match P.info? T with
  | some i => match i.zero with
    | some z => i.size == 1 && i.bytes == bytes && z.cells.size == 1
    | none => false
  | none => false
theorem elB_out {P : Program} {T : TypeId} {bytes : Nat} (h : elB P T bytes = true) : ∃ i z, P.info? T = some i ∧ i.zero = some z ∧ i.size = 1 ∧ i.bytes = bytes ∧ z.cells.size = 1 := by
  unfold elB at h
  split at h
  · rename_i i hi
    split at h
    · rename_i z hz
      simp only [Bool.and_eq_true, beq_iff_eq] at h
      exact ⟨i, z, hi, hz, h.1.1, h.1.2, h.2⟩
    · cases h
  · cases h
structure El (P : Program) (t1 t2 T : TypeId) (bytes : Nat) : Prop where
  ht : P.underlying t1 = some (.slice T)
  hk : ∃ e', P.underlying t2 = some (.slice e')
  hi : elB P T bytes = true
theorem append_rule {P : Program} {t1 t2 ty T : TypeId} {bytes : Nat} (E : El P t1 t2 T bytes) {R : Cx} {Hs : List HP} {w : World} {s : Sl} {xs ys : List Value} {src : Value} {n : Nat} {K : Sl → World → Prop}
    (hw : Sat R (Own s T xs :: Hs) w) (hs : Src P 1 t2 src n ys w) (h1 : oneAll xs = true) (hb : 2 * (xs.length + n) * bytes ≤ 281474976710656) (hb' : xs.length + n ≤ 9223372036854775807)
    (k : ∀ s' w', Sat R (Own s' T (xs ++ ys) :: Hs) w' → K s' w') :
    ∃ w', ∃ t : Sl, (Builtin.append_ #[t1, t2] ty #[.slice s.a s.len s.cap, src]).run P w = .ok (.slice t.a t.len t.cap) w' ∧ K t w' := by
  obtain ⟨i, z, hi, hz, hsize, hbytes, hzc⟩ := elB_out E.hi
  have hyn : ys.length = n := by have := hs.newsLen; simpa using this
  have hs' : Src P i.size t2 src n ys w := by rw [hsize]; exact hs
  have hlen := Own.len hw
  have fit : ∀ cap, cap < xs.length + n → Builtin.nextslicecap (xs.length + n) cap * i.bytes ≤ 281474976710656 := fun cap hc => by
    have h2 : Builtin.nextslicecap (xs.length + n) cap ≤ 2 * (xs.length + n) := by
      unfold Builtin.nextslicecap
      split
      · omega
      · split
        · omega
        · have := nextslicecap_le_wide hc
          unfold Builtin.nextslicecap at this
          rw [if_neg (by assumption), if_neg (by assumption)] at this
          omega
    rw [hbytes]
    exact Nat.le_trans (Nat.mul_le_mul_right _ h2) hb
  -- a new row
  have grow : ∀ (base : Option Addr) (cap : Nat) (olds : List Value), olds = xs → cap < xs.length + n → (Builtin.firstCells i.size xs.length (.slice base xs.length cap)).run P w.drew = .ok olds.toArray w.drew → Sat R Hs w →
      ∃ w', ∃ t : Sl, (Builtin.append_ #[t1, t2] ty #[.slice base xs.length cap, src]).run P w = .ok (.slice t.a t.len t.cap) w' ∧ K t w' := fun base cap olds ho hc hold hw => by
    have hr := run_append_grow_src w t1 t2 ty T i z E.ht hi hz base xs.length cap olds hold src n ys hs' hc (by omega) (fit cap hc)
    refine ⟨_, ⟨some ⟨w.heap.size, 0, none⟩, xs.length + n, grownCap w (xs.length + n) cap T⟩, hr, k _ _ ?_⟩
    have hz0 : (Builtin.zeroCells z.cells (grownCap w (xs.length + n) cap T - (xs.length + n))).size = grownCap w (xs.length + n) cap T - (xs.length + n) := by
      simp [Builtin.zeroCells, hzc]
    have hg := grownCap_ge w (xs.length + n) cap T
    have ho' : Obj.cells ((olds ++ ys).toArray ++ Builtin.zeroCells z.cells (grownCap w (xs.length + n) cap T - (xs.length + n))) T = .cells ((xs ++ ys) ++ (Builtin.zeroCells z.cells (grownCap w (xs.length + n) cap T - (xs.length + n))).toList).toArray T (0, 0) := by
      rw [ho]
      congr 1
      apply Array.ext'; simp
    have := Sat.alloc (Obj.cells ((olds ++ ys).toArray ++ Builtin.zeroCells z.cells (grownCap w (xs.length + n) cap T - (xs.length + n))) T) (Sat.drew hw)
    rw [ho'] at this ⊢
    have h3 := Own.of_pts this
    have e : (⟨some ⟨w.drew.heap.size, 0, none⟩, (xs ++ ys).length, (xs ++ ys ++ (Builtin.zeroCells z.cells (grownCap w (xs.length + n) cap T - (xs.length + n))).toList).length⟩ : Sl) = ⟨some ⟨w.heap.size, 0, none⟩, xs.length + n, grownCap w (xs.length + n) cap T⟩ := by
      simp only [List.length_append, Array.length_toList, hz0, World.size_drew, hyn]
      congr 1
      omega
    rw [e] at h3
    exact h3
  rcases Own.cases hw with ⟨rfl, rfl, hz2⟩ | ⟨b, rest, fr, rfl, hfr, hp⟩
  · by_cases hn0 : n = 0
    · subst hn0
      have hy : ys = [] := List.length_eq_zero_iff.1 hyn
      subst hy
      obtain ⟨e', he'⟩ := E.hk
      refine ⟨w, ⟨none, 0, 0⟩, ?_, k _ _ (by simpa using Own.nil hz2)⟩
      have hcz := hs'.cells
      simp [Builtin.append_, run_underlying E.ht, run_underlying he', sizeOf, typeInfo, hi, hs'.len, hcz]
    · exact grow none 0 [] rfl (by simp; omega) (run_firstCells_none w.drew i.size 0 0 0) hz2
  · by_cases hroom : xs.length + n ≤ (xs ++ rest).length
    · have hat := hp.at
      have hr := run_append_room_src w t1 t2 ty T i E.ht hi b 0 xs.length (xs ++ rest).length src n ys hs' hroom
        (fun j hj => by rw [cell_of hat, hsize]; simp at hroom ⊢; omega) (fun j hj => frozen_no hat hfr (by rw [hsize, Nat.mul_one]; simp only [List.length_append] at hroom ⊢; omega))
      refine ⟨_, ⟨some ⟨b, 0, none⟩, xs.length + n, (xs ++ rest).length⟩, hr, k _ _ ?_⟩
      have h2 := setCells_sat ys (xs ++ rest) xs.length w hp
      have e1 : putL (xs ++ rest) xs.length ys = (xs ++ ys) ++ rest.drop n := by
        rw [putL_eq _ _ _ (by rw [hyn]; exact hroom), List.take_left', List.drop_append]
        · simp [hyn]
        · rfl
      rw [e1] at h2
      rw [hsize, Nat.zero_add, Nat.mul_one]
      have h3 := Own.of_pts h2 (hfr.le (by simp only [List.length_append, List.length_drop] at hroom ⊢; omega))
      have e : (⟨some ⟨b, 0, none⟩, (xs ++ ys).length, (xs ++ ys ++ rest.drop n).length⟩ : Sl) = ⟨some ⟨b, 0, none⟩, xs.length + n, (xs ++ rest).length⟩ := by
        simp only [List.length_append, List.length_drop, hyn] at hroom ⊢
        congr 1
        omega
      rw [e] at h3
      exact h3
    · have hat := hp.at
      refine grow (some ⟨b, 0, none⟩) (xs ++ rest).length xs rfl (by omega) ?_ hp.drop
      refine run_firstCells_some w.drew i.size xs.length ⟨b, 0, none⟩ xs.length _ xs (by rw [hsize]; simp) ?_
      intro j u hj
      rw [World.cell?_drew, add_off, cell_of hat, Nat.zero_add]
      obtain ⟨hlt, rfl⟩ := List.getElem?_eq_some_iff.1 hj
      simp [List.getElem?_append_left hlt]
theorem Src_one {P : Program} {t2 : TypeId} (hk : ∃ e', P.underlying t2 = some (.slice e')) {R : Cx} {Hs Rest : List HP} {w : World} {b : Nat} {x : Value} {T : TypeId} {fr : Nat × Nat} (c : Nat)
    (hw : Sat R Hs w) [t : TakeP b Hs (.cells [x].toArray T fr) Rest] (h1 : x.oneCell' = true) : Src P 1 t2 (.slice (some ⟨b, 0, none⟩) 1 c) 1 [x] w := by
  obtain ⟨e', he'⟩ := hk
  refine Go.Src.ofSlice w he' _ 1 c [x] rfl ?_ ?_
  · intro j u hj
    have := hw.look b
    rw [add_off, cell_of this]; simpa using hj
  · intro u hu; simp at hu; subst hu; exact h1
theorem push_rule {P : Program} {t1 t2 ty T T' : TypeId} {bytes : Nat} (E : El P t1 t2 T bytes) {R : Cx} {Hs : List HP} {w : World} {s : Sl} {xs : List Value} {x : Value} {K : Sl → World → Prop}
    (hw : Sat R (Own s T xs :: Hs) w) (h1 : oneAll xs = true) (hx : x.oneCell' = true) (hb : 2 * (xs.length + 1) * bytes ≤ 281474976710656) (hb' : xs.length + 1 ≤ 9223372036854775807)
    (k : ∀ s' w', Sat R (Own s' T (xs ++ [x]) :: Hs) w' → K s' w') :
    New (.cells #[x] T' (0, 0)) (fun b w => ∃ w', ∃ t : Sl, (Builtin.append_ #[t1, t2] ty #[.slice s.a s.len s.cap, .slice (some ⟨b, 0, none⟩) 1 1]).run P w = .ok (.slice t.a t.len t.cap) w' ∧ K t w') w := by
  refine new_rule hw fun b w hw => ?_
  have hw : Sat R (pts b (.cells [x].toArray T' (0, 0)) :: Own s T xs :: Hs) w := hw
  exact append_rule E hw.swap (Src_one E.hk 1 hw hx) h1 hb hb' fun s' w' h => k s' w' h.swap.drop
theorem pushI_rule {P : Program} {t1 t2 ty T T' : TypeId} (E : El P t1 t2 T 8) {R : Cx} {Hs : List HP} {w : World} {s : Sl} {xs : List Int} {x : Int} {K : Sl → World → Prop}
    (hw : Sat R (Own s T (xs.map (Value.int .i64)) :: Hs) w) (hb : xs.length < 1000000000000)
    (k : ∀ s' w', Sat R (Own s' T ((xs ++ [x]).map (Value.int .i64)) :: Hs) w' → K s' w') :
    New (.cells #[.int .i64 x] T' (0, 0)) (fun b w => ∃ w', ∃ t : Sl, (Builtin.append_ #[t1, t2] ty #[.slice s.a s.len s.cap, .slice (some ⟨b, 0, none⟩) 1 1]).run P w = .ok (.slice t.a t.len t.cap) w' ∧ K t w') w :=
  push_rule E hw (by unfold oneAll; simp [Value.oneCell']) rfl (by rw [List.length_map]; omega) (by rw [List.length_map]; omega) fun s' w' h => k s' w' (by simpa using h)
end Go.VC
/- SL, part 4: what a sort leaves; elements of a row of ints of one's own. No condition. -/
namespace Go.VC
set_option linter.unusedVariables false
theorem At.ints {S : World → Prop} {R : Cx} {Hs Rest : List HP} {b : Nat} {xs : List Int} {T : TypeId} {fr : Nat × Nat} (hS : ∀ w, S w → Sat R Hs w)
    [t : TakeP b Hs (.cells (xs.map (Value.int .i64)).toArray T fr) Rest] {i : Nat} (hi : i < xs.length) : At S (Addr.add ⟨b, 0, none⟩ i) [.int .i64 xs[i]] := by
  rw [add_off]
  refine At.own hS ?_
  rw [Nat.zero_add, List.drop_eq_getElem_cons (by simpa using hi)]
  exact ⟨by simp, trivial⟩
theorem Pre.refl : ∀ l : List Value, Pre l l
  | [] => trivial
  | _ :: l => ⟨rfl, Pre.refl l⟩
theorem Own.lendI {R : Cx} {Hs : List HP} {w : World} {T : TypeId} {s : Sl} {xs : List Int} (h : Sat R (Own s T (xs.map (Value.int .i64)) :: Hs) w) (hb : xs.length ≤ 9223372036854775807) :
    ∃ R' : Cx, RoI R' s xs ∧ (∀ s' xs', Ro R s' xs' → Ro R' s' xs') ∧ Sat R' Hs w ∧ ∀ {Hs' w'}, Sat R' Hs' w' → Sat R (Own s T (xs.map (Value.int .i64)) :: Hs') w' :=
  Own.lend h (by simpa using hb)
end Go.VC
/- SL, part 5: elements of a slice of one's own, loads, stores, clear; stores of structs. No condition. -/
namespace Go.VC
set_option linter.unusedVariables false
variable {P : Program} {R : Cx} {Hs Rest : List HP} {w : World} {s : Sl} {T : TypeId}
theorem Own.addr {xs : List Value} (hw : Sat R (Own s T xs :: Hs) w) {k : Nat} (hk : k < xs.length) : ∃ b, s.a = some ⟨b, 0, none⟩ ∧
    ∀ {S : World → Prop} {Hs'}, (∀ w, S w → Sat R (Own s T xs :: Hs') w) → At S (Addr.add ⟨b, 0, none⟩ k) [xs[k]] := by
  rcases Own.cases hw with ⟨_, rfl, _⟩ | ⟨b, rest, fr, rfl, _, _⟩
  · simp at hk
  · refine ⟨b, rfl, fun hS w hs i v hv => ?_⟩
    have hi : i = 0 := by
      cases i with
      | zero => rfl
      | succ i => simp at hv
    subst hi
    simp only [List.getElem?_cons_zero, Option.some.injEq] at hv
    subst hv
    rcases Own.cases (hS w hs) with ⟨h0, _, _⟩ | ⟨b', rest', fr', he, _, h⟩
    · cases h0
    · simp only [Sl.mk.injEq, Option.some.injEq, Addr.mk.injEq, and_true] at he
      obtain ⟨rfl, _⟩ := he
      rw [add_off, add_off, cell_of h.at]
      simp [List.getElem?_append_left hk]
theorem Own.cap {xs : List Value} (hw : Sat R (Own s T xs :: Hs) w) : s.len ≤ s.cap := by
  rcases Own.cases hw with ⟨rfl, _, _⟩ | ⟨b, rest, fr, rfl, _, _⟩
  · exact Nat.le_refl _
  · simp
theorem Own.idx {kd : IntKind} {xs : List Int} {S : World → Prop} {Hs' : List HP} (hw : Sat R (Own s T (xs.map (Value.int kd)) :: Hs) w) (hS : ∀ w, S w → Sat R (Own s T (xs.map (Value.int kd)) :: Hs') w) {k : Nat} (hk : k < xs.length) {F : Int → Prop} (h : F xs[k]) :
    Rng (k : Int) s.len (NilP s.a fun a => ∃ t : Int, (At S (a.add (k : Int).toNat) [.int kd t]) ∧ F t) := by
  obtain ⟨b, ha, hat⟩ := Own.addr hw (k := k) (by simpa using hk)
  have hl := Own.len hw
  rw [List.length_map] at hl
  refine Rng.mk (by omega) (by omega) (NilP.mk ha ⟨xs[k], ?_, h⟩)
  have := hat hS
  simpa using this
theorem Own.store {t : TypeId} {kd : IntKind} {xs : List Int} (hsz : (P.info? t).map (·.size) = some 1) (hw : Sat R (Own s T (xs.map (Value.int kd)) :: Hs) w) {k : Nat} (hk : k < xs.length) {x : Int} {K : World → Prop}
    (h : ∀ w', Sat R (Own s T ((xs.set k x).map (Value.int kd)) :: Hs) w' → K w') :
    Rng (k : Int) s.len (NilP s.a fun a => ∃ w', (Instr.storeAt t (.pointer (some (Addr.add a (k : Int).toNat))) (.int kd x)).run P w = .ok () w' ∧ K w') := by
  have hl := Own.len hw
  rw [List.length_map] at hl
  rcases Own.cases hw with ⟨_, h0, _⟩ | ⟨b, rest, fr, rfl, hfr, hp⟩
  · simp at h0; subst h0; simp at hk
  · refine Rng.mk (by omega) (by simp only at hl ⊢; omega) (NilP.mk rfl ?_)
    rw [add_off]
    refine store_rule hp (by rw [hsz]; rfl) rfl (by simp [Value.cells]; omega) fun w' h2 => h w' ?_
    have e : putL (xs.map (Value.int kd) ++ rest) (0 + (k : Int).toNat) (Value.int kd x).cells.toList = (xs.set k x).map (Value.int kd) ++ rest := by
      simp only [putL, Value.cells, Nat.zero_add, Int.toNat_natCast]
      rw [List.set_append_left _ _ (by simpa using hk), List.map_set]
    rw [e] at h2
    have h3 := Own.of_pts h2 (hfr.le (by simp))
    simpa using h3
end Go.VC
/- SL, part 6: maps with keys that are strings or integers: lookup, update, delete. No condition. -/
namespace Go.VC
set_option linter.unusedVariables false
class KeyK (α : Type) [BEq α] where
  enc : α → Value
  desc : TypeDesc
  same : ∀ a b, Instr.sameNow desc (enc a) (enc b) = some (a == b)
  bits : ∀ a, Instr.sameBits 10000 (enc a) (enc a) = true
  eq : ∀ a b : α, (a == b) = true → a = b
  check : ∀ (P : Program) (em : Bool) (K : TypeId) (a : α) (w : World), P.underlying K = some desc → (Instr.checkKey em 10000 K (enc a)).run P w = .ok () w
instance : KeyK ByteArray where
  enc := Value.string
  desc := .string
  same a b := rfl
  bits a := by
    have : ∀ n, Instr.sameBits n (.string a) (.string a) = (a == a) := fun n => by cases n <;> rfl
    rw [this]; exact (MapKept.bytes_beq a a).2 rfl
  eq a b h := (MapKept.bytes_beq a b).1 h
  check P em K a w h := by
    show (Instr.checkKey em (9999 + 1) K (.string a)).run P w = _
    unfold Instr.checkKey
    simp [run_underlying h]
variable {α : Type} [BEq α] [KeyK α]
abbrev En (α : Type) := α × Value × Nat
def mkE (e : En α) : MapEntry := { key := KeyK.enc e.1, val := e.2.1, born := e.2.2 }
def getE (k : α) : List (En α) → Option Value
  | [] => none
  | e :: es => if k == e.1 then some e.2.1 else getE k es
def setE (k : α) (v : Value) : List (En α) → List (En α)
  | [] => []
  | e :: es => if k == e.1 then (e.1, v, e.2.2) :: es else e :: setE k v es
def delE (k : α) : List (En α) → List (En α)
  | [] => []
  | e :: es => if k == e.1 then es else e :: delE k es
def hasE (k : α) (es : List (En α)) : Bool := (getE k es).isSome
def putE (k : α) (v : Value) (es : List (En α)) (clock : Nat) : List (En α) := if hasE k es then setE k v es else es ++ [(k, v, clock)]
def idxE (k : α) : List (En α) → Nat → Option (Nat × Value)
  | [], _ => none
  | e :: es, i => if k == e.1 then some (i, e.2.1) else idxE k es (i + 1)
theorem findNow_eq (k : α) : ∀ (es : List (En α)) (i : Nat), Instr.findNow (KeyK.desc α) (KeyK.enc k) (es.map mkE) i = some (idxE k es i)
  | [], _ => rfl
  | e :: es, i => by
    rw [List.map_cons, Instr.findNow, mkE, KeyK.same, idxE]
    cases h : (k == e.1)
    · simpa using findNow_eq k es (i + 1)
    · rfl
omit [KeyK α] in
theorem idxE_val (k : α) : ∀ (es : List (En α)) (i : Nat), (idxE k es i).map (·.2) = getE k es
  | [], _ => rfl
  | e :: es, i => by
    rw [idxE, getE]
    cases h : (k == e.1)
    · exact idxE_val k es (i + 1)
    · rfl
theorem run_findKey {P : Program} {K : TypeId} (hK : P.underlying K = some (KeyK.desc α)) (k : α) (es : List (En α)) (w : World) :
    (Instr.findKey K (KeyK.enc k) (es.map mkE)).run P w = .ok (idxE k es 0) w := by
  unfold Instr.findKey
  simp [run_underlying hK, findNow_eq]
theorem run_keyThatStays {P : Program} (k : α) (w : World) : (Instr.keyThatStays (KeyK.enc k) (KeyK.enc k)).run P w = .ok (KeyK.enc k) w := by
  unfold Instr.keyThatStays
  rw [if_pos (KeyK.bits k)]; rfl
theorem lookup_run {P : Program} {T K E : TypeId} (hT : P.underlying T = some (.map K E)) (hK : P.underlying K = some (KeyK.desc α)) {z : Value} (hz : ∀ w, (zeroValue E).run P w = .ok z w)
    {w : World} {m clock : Nat} {es : List (En α)} (hm : w.heap[m]? = some (.map (es.map mkE).toArray clock)) (k : α) (c : Bool) :
    (Instr.lookup T (.map (some m)) (KeyK.enc k) c).run P w = .ok (if c then .tuple #[(getE k es).getD z, .bool (hasE k es)] else (getE k es).getD z) w := by
  have hv := idxE_val k es 0
  have hck := KeyK.check P (es.map mkE).toArray.isEmpty K k w hK
  have hfk := run_findKey hK k es w
  unfold Instr.lookup
  cases hi : idxE k es 0 with
  | none =>
    rw [hi] at hv hfk
    simp only [Option.map_none] at hv
    simp only [Sem.run_bind, run_underlying hT, Result.andThen, MapKept.run_getObj_map hm, Sem.run_pure, hck, hfk, hz, hasE, ← hv]
    rfl
  | some p =>
    rw [hi] at hv hfk
    simp only [Option.map_some] at hv
    simp only [Sem.run_bind, run_underlying hT, Result.andThen, MapKept.run_getObj_map hm, Sem.run_pure, hck, hfk, hasE, ← hv]
    rfl
omit [KeyK α] in
theorem idxE_set (k : α) : ∀ (es : List (En α)) (i : Nat), (∀ p, idxE k es i = some p → i ≤ p.1)
  | [], i, p, h => by cases h
  | e :: es, i, p, h => by
    rw [idxE] at h
    cases hk : (k == e.1)
    · rw [hk] at h; have := idxE_set k es (i + 1) p (by simpa using h); omega
    · rw [hk] at h; simp at h; subst h; exact Nat.le_refl _
theorem modify_eq (k : α) (v : Value) : ∀ (es : List (En α)) (i : Nat) (p : Nat × Value), idxE k es i = some p →
    (es.map mkE).modify (p.1 - i) (fun e => { e with key := KeyK.enc k, val := v }) = (setE k v es).map mkE
  | [], _, _, h => by cases h
  | e :: es, i, p, h => by
    have hle := idxE_set k (e :: es) i p h
    rw [idxE] at h
    cases hk : (k == e.1)
    · rw [hk] at h
      have h' : idxE k es (i + 1) = some p := by simpa using h
      have hle2 := idxE_set k es (i + 1) p h'
      obtain ⟨j, hj⟩ : ∃ j, p.1 - i = j + 1 := ⟨p.1 - (i + 1), by omega⟩
      have ih := modify_eq k v es (i + 1) p h'
      rw [show p.1 - (i + 1) = j by omega] at ih
      rw [hj, setE, hk]
      simp only [List.map_cons, List.modify_succ_cons, Bool.false_eq_true, if_false, List.cons.injEq, true_and]
      exact ih
    · rw [hk] at h
      simp at h; subst h
      have := KeyK.eq _ _ hk
      subst this
      rw [setE, hk]
      simp [mkE]
theorem erase_eq (k : α) : ∀ (es : List (En α)) (i : Nat) (p : Nat × Value), idxE k es i = some p → (es.map mkE).eraseIdx (p.1 - i) = (delE k es).map mkE
  | [], _, _, h => by cases h
  | e :: es, i, p, h => by
    rw [idxE] at h
    cases hk : (k == e.1)
    · rw [hk] at h
      have h' : idxE k es (i + 1) = some p := by simpa using h
      have hle2 := idxE_set k es (i + 1) p h'
      obtain ⟨j, hj⟩ : ∃ j, p.1 - i = j + 1 := ⟨p.1 - (i + 1), by omega⟩
      have ih := erase_eq k es (i + 1) p h'
      rw [show p.1 - (i + 1) = j by omega] at ih
      rw [hj, delE, hk]
      simp only [List.map_cons, List.eraseIdx_cons_succ, Bool.false_eq_true, if_false, List.cons.injEq, true_and]
      exact ih
    · rw [hk] at h
      simp at h; subst h
      rw [delE, hk]; simp
omit [KeyK α] in
theorem idxE_none (k : α) (es : List (En α)) (i : Nat) : idxE k es i = none ↔ hasE k es = false := by
  unfold hasE; rw [← idxE_val k es i]; cases idxE k es i <;> simp
omit [KeyK α] in
theorem delE_none (k : α) : ∀ (es : List (En α)), hasE k es = false → delE k es = es
  | [], _ => rfl
  | e :: es, h => by
    unfold hasE getE at h
    cases hk : (k == e.1)
    · rw [hk] at h
      rw [delE, hk]
      simp only [Bool.false_eq_true, if_false, List.cons.injEq, true_and]
      exact delE_none k es (by unfold hasE; simpa using h)
    · rw [hk] at h; simp at h
theorem idxE_lt (k : α) : ∀ (es : List (En α)) (i : Nat) (p : Nat × Value), idxE k es i = some p → p.1 < i + es.length ∧ ∃ e, (es.map mkE)[p.1 - i]? = some e ∧ e.key = KeyK.enc k
  | [], _, _, h => by cases h
  | e :: es, i, p, h => by
    rw [idxE] at h
    cases hk : (k == e.1)
    · rw [hk] at h
      have h' : idxE k es (i + 1) = some p := by simpa using h
      have hle2 := idxE_set k es (i + 1) p h'
      obtain ⟨h1, e', h2, h3⟩ := idxE_lt k es (i + 1) p h'
      refine ⟨by simp only [List.length_cons]; omega, e', ?_, h3⟩
      obtain ⟨j, hj⟩ : ∃ j, p.1 - i = j + 1 := ⟨p.1 - (i + 1), by omega⟩
      rw [hj, List.map_cons, List.getElem?_cons_succ, show j = p.1 - (i + 1) by omega]
      exact h2
    · rw [hk] at h
      simp at h; subst h
      refine ⟨by simp, mkE e, by simp, ?_⟩
      rw [KeyK.eq _ _ hk]; rfl
theorem update_run {P : Program} {T K E : TypeId} (hT : P.underlying T = some (.map K E)) (hK : P.underlying K = some (KeyK.desc α))
    {w : World} {m clock : Nat} {es : List (En α)} (hm : w.heap[m]? = some (.map (es.map mkE).toArray clock)) (k : α) (v : Value) :
    (Instr.mapUpdate T (.map (some m)) (KeyK.enc k) v).run P w = .ok () (w.setBlock m (.map ((putE k v es clock).map mkE).toArray (if hasE k es then clock else clock + 1))) := by
  have hck := KeyK.check P false K k w hK
  have hfk := run_findKey hK k es w
  unfold Instr.mapUpdate
  cases hi : idxE k es 0 with
  | none =>
    have hn := (idxE_none k es 0).1 hi
    rw [hi] at hfk
    simp only [Sem.run_bind, run_underlying hT, Result.andThen, MapKept.run_getObj_map hm, hck, hfk, MapKept.run_setObj_map _ hm, putE, hn, World.setBlock, Bool.false_eq_true, if_false]
    simp [mkE]
  | some p =>
    have hh : hasE k es = true := by
      cases h : hasE k es
      · rw [(idxE_none k es 0).2 h] at hi; cases hi
      · rfl
    obtain ⟨_, e, he, hek⟩ := idxE_lt k es 0 p hi
    have hmod := modify_eq k v es 0 p hi
    rw [Nat.sub_zero] at he hmod
    rw [hi] at hfk
    have hkey : (((es.map mkE).toArray[p.1]?).map (·.key)).getD (KeyK.enc k) = KeyK.enc k := by
      have : (es.map mkE).toArray[p.1]? = some e := by simpa using he
      rw [this]; exact hek
    simp only [Sem.run_bind, run_underlying hT, Result.andThen, MapKept.run_getObj_map hm, hck, hfk, hkey, run_keyThatStays, MapKept.run_setObj_map _ hm, putE, hh, World.setBlock, if_true]
    congr 4
    apply Array.ext'
    rw [← hmod]
    simp
theorem delete_run {P : Program} {T K E ty t2 : TypeId} (hT : P.underlying T = some (.map K E)) (hK : P.underlying K = some (KeyK.desc α))
    {w : World} {m clock : Nat} {es : List (En α)} (hm : w.heap[m]? = some (.map (es.map mkE).toArray clock)) (k : α) :
    (Builtin.delete_ #[T, t2] ty #[.map (some m), KeyK.enc k]).run P w = .ok (.tuple #[]) (w.setBlock m (.map ((delE k es).map mkE).toArray clock)) := by
  have hck := KeyK.check P (es.map mkE).toArray.isEmpty K k w hK
  have hfk := run_findKey hK k es w
  have h0 : (#[T, t2] : Array TypeId)[0]? = some T := rfl
  have h1 : (#[Value.map (some m), KeyK.enc k] : Array Value)[0]? = some (.map (some m)) := rfl
  have h2 : (#[Value.map (some m), KeyK.enc k] : Array Value)[1]? = some (KeyK.enc k) := rfl
  unfold Builtin.delete_
  rw [h0, h1, h2]
  cases hi : idxE k es 0 with
  | none =>
    have hn := (idxE_none k es 0).1 hi
    rw [hi] at hfk
    simp only [Sem.run_bind, run_underlying hT, Result.andThen, MapKept.run_getObj_map hm, hck, hfk, MapKept.run_setObj_map _ hm, World.setBlock, delE_none k es hn, Sem.run_pure]
  | some p =>
    have her := erase_eq k es 0 p hi
    obtain ⟨hlt, _⟩ := idxE_lt k es 0 p hi
    rw [Nat.sub_zero] at her
    rw [hi] at hfk
    have e : (es.map mkE).toArray.eraseIdxIfInBounds p.1 = ((delE k es).map mkE).toArray := by
      apply Array.ext'
      rw [← her]
      simp [Array.eraseIdxIfInBounds, show p.1 < es.length by omega]
    simp only [Sem.run_bind, run_underlying hT, Result.andThen, MapKept.run_getObj_map hm, hck, hfk, MapKept.run_setObj_map _ hm, World.setBlock, e, Sem.run_pure]
end Go.VC
/- SL, part 7: a map of one's own, by its keys and values; opening of what holds for some x. No condition. -/
namespace Go.VC
set_option linter.unusedVariables false
variable {α : Type} [BEq α] [KeyK α]
def getM {β : Type} (k : α) : List (α × β) → Option β
  | [] => none
  | e :: es => if k == e.1 then some e.2 else getM k es
def setM {β : Type} (k : α) (v : β) : List (α × β) → List (α × β)
  | [] => []
  | e :: es => if k == e.1 then (e.1, v) :: es else e :: setM k v es
def delM {β : Type} (k : α) : List (α × β) → List (α × β)
  | [] => []
  | e :: es => if k == e.1 then es else e :: delM k es
def putM {β : Type} (k : α) (v : β) (es : List (α × β)) : List (α × β) := if (getM k es).isSome then setM k v es else es ++ [(k, v)]
abbrev strip (es : List (En α)) : List (α × Value) := es.map fun e => (e.1, e.2.1)
omit [KeyK α] in
theorem getE_strip (k : α) : ∀ es : List (En α), getE k es = getM k (strip es)
  | [] => rfl
  | e :: es => by rw [getE, strip, List.map_cons, getM, getE_strip k es]
omit [KeyK α] in
theorem hasE_strip (k : α) (es : List (En α)) : hasE k es = (getM k (strip es)).isSome := by unfold hasE; rw [getE_strip]
omit [KeyK α] in
theorem setE_strip (k : α) (v : Value) : ∀ es : List (En α), strip (setE k v es) = setM k v (strip es)
  | [] => rfl
  | e :: es => by
    have ih := setE_strip k v es
    unfold strip at *
    rw [List.map_cons, setE, setM]
    split
    · simp
    · simp [ih]
omit [KeyK α] in
theorem delE_strip (k : α) : ∀ es : List (En α), strip (delE k es) = delM k (strip es)
  | [] => rfl
  | e :: es => by
    have ih := delE_strip k es
    unfold strip at *
    rw [List.map_cons, delE, delM]
    split
    · rfl
    · simp [ih]
omit [KeyK α] in
theorem putE_strip (k : α) (v : Value) (es : List (En α)) (c : Nat) : strip (putE k v es c) = putM k v (strip es) := by
  unfold putE putM
  rw [hasE_strip]
  split
  · exact setE_strip k v es
  · simp [strip]
def StampsOk (l : List (En α)) (c : Nat) : Prop := (∀ e ∈ l, e.2.2 < c) ∧ (l.map (·.2.2)).Nodup
omit [KeyK α] in
theorem setE_stamps (k : α) (v : Value) : ∀ l : List (En α), (setE k v l).map (·.2.2) = l.map (·.2.2)
  | [] => rfl
  | e :: es => by
    rw [setE]
    split
    · rfl
    · rw [List.map_cons, List.map_cons, setE_stamps k v es]
omit [KeyK α] in
theorem delE_sub (k : α) : ∀ l : List (En α), (delE k l).Sublist l
  | [] => List.Sublist.refl _
  | e :: es => by
    rw [delE]
    split
    · exact List.sublist_cons_self _ _
    · exact (delE_sub k es).cons_cons _
omit [KeyK α] in
theorem stamps_put {l : List (En α)} {c : Nat} (h : StampsOk l c) (k : α) (v : Value) : StampsOk (putE k v l c) (if hasE k l then c else c + 1) := by
  unfold putE
  split
  · refine ⟨fun e he => ?_, by rw [setE_stamps]; exact h.2⟩
    have : e.2.2 ∈ (setE k v l).map (·.2.2) := List.mem_map_of_mem he
    rw [setE_stamps] at this
    obtain ⟨x, hx, hxe⟩ := List.mem_map.1 this
    rw [← hxe]; exact h.1 x hx
  · refine ⟨fun e he => ?_, ?_⟩
    · rcases List.mem_append.1 he with he | he
      · have := h.1 e he; omega
      · simp at he; subst he; simp
    · rw [List.map_append, List.nodup_append]
      refine ⟨h.2, by simp, fun x hx y hy => ?_⟩
      simp at hy
      obtain ⟨e, he, rfl⟩ := List.mem_map.1 hx
      have := h.1 e he
      omega
omit [KeyK α] in
theorem stamps_del {l : List (En α)} {c : Nat} (h : StampsOk l c) (k : α) : StampsOk (delE k l) c :=
  ⟨fun e he => h.1 e ((delE_sub k l).subset he), ((delE_sub k l).map _).nodup h.2⟩
def MapAt (m : Nat) (es : List (α × Value)) : HP := fun h => ∃ (l : List (En α)) (c : Nat), strip l = es ∧ StampsOk l c ∧ h = Heap.one m (.map (l.map mkE).toArray c)
theorem MapAt.iff {R : Cx} {Hs : List HP} {w : World} {m : Nat} {es : List (α × Value)} : Sat R (MapAt m es :: Hs) w ↔ ∃ l c, strip l = es ∧ StampsOk l c ∧ Sat R (pts m (.map (l.map (mkE (α := α))).toArray c) :: Hs) w := by
  constructor
  · rintro ⟨a, ⟨l, c, h1, h3, h2⟩, hd, hs⟩; exact ⟨l, c, h1, h3, a, h2, hd, hs⟩
  · rintro ⟨l, c, h1, h3, a, h2, hd, hs⟩; exact ⟨a, ⟨l, c, h1, h3, h2⟩, hd, hs⟩
structure MapT (P : Program) (T : TypeId) (α : Type) [BEq α] [KeyK α] (K E : TypeId) (z : Value) : Prop where
  hT : P.underlying T = some (.map K E)
  hK : P.underlying K = some (KeyK.desc α)
  hz : ∀ w, (zeroValue E).run P w = .ok z w
variable {P : Program} {R : Cx} {Hs : List HP} {w : World} {m : Nat} {es : List (α × Value)} {T K E : TypeId} {z : Value}
theorem MapAt.look (M : MapT P T α K E z) (hw : Sat R (MapAt m es :: Hs) w) (k : α) (c : Bool) :
    (Instr.lookup T (.map (some m)) (KeyK.enc k) c).run P w = .ok (if c then .tuple #[(getM k es).getD z, .bool (getM k es).isSome] else (getM k es).getD z) w := by
  obtain ⟨l, clk, rfl, _, hp⟩ := MapAt.iff.1 hw
  rw [lookup_run M.hT M.hK M.hz hp.at k c, getE_strip, hasE_strip]
theorem MapAt.put (M : MapT P T α K E z) (hw : Sat R (MapAt m es :: Hs) w) (k : α) (v : Value) {Q : World → Prop} (h : ∀ w', Sat R (MapAt m (putM k v es) :: Hs) w' → Q w') :
    ∃ w', (Instr.mapUpdate T (.map (some m)) (KeyK.enc k) v).run P w = .ok () w' ∧ Q w' := by
  obtain ⟨l, clk, rfl, hst, hp⟩ := MapAt.iff.1 hw
  refine ⟨_, update_run M.hT M.hK hp.at k v, h _ (MapAt.iff.2 ⟨putE k v l clk, _, putE_strip k v l clk, stamps_put hst k v, hp.setPts _⟩)⟩
theorem MapAt.del {t2 ty : TypeId} (M : MapT P T α K E z) (hw : Sat R (MapAt m es :: Hs) w) (k : α) {Q : World → Prop} (h : ∀ w', Sat R (MapAt m (delM k es) :: Hs) w' → Q w') :
    ∃ w', (Builtin.delete_ #[T, t2] ty #[.map (some m), KeyK.enc k]).run P w = .ok (.tuple #[]) w' ∧ Q w' := by
  obtain ⟨l, clk, rfl, hst, hp⟩ := MapAt.iff.1 hw
  exact ⟨_, delete_run M.hT M.hK hp.at k, h _ (MapAt.iff.2 ⟨delE k l, _, delE_strip k l, stamps_del hst k, hp.setPts _⟩)⟩
theorem MapAt.new {o : Obj} (ho : o = .map #[] 0) (hw : Sat R (pts m o :: Hs) w) : Sat R (MapAt (α := α) m [] :: Hs) w := by
  subst ho
  exact MapAt.iff.2 ⟨[], 0, rfl, ⟨fun _ h => (by cases h), List.nodup_nil⟩, hw⟩
section
variable {β : Type}
theorem getM_split {k : α} {v : β} : ∀ {l : List (α × β)}, getM k l = some v → ∃ a b, l = a ++ (k, v) :: b ∧ getM k a = none
  | [], h => by cases h
  | e :: l, h => by
    rw [getM] at h
    split at h
    · rename_i hk
      cases h
      have := KeyK.eq _ _ hk
      subst this
      exact ⟨[], l, rfl, rfl⟩
    · rename_i hne
      obtain ⟨a, b, rfl, ha⟩ := getM_split h
      exact ⟨e :: a, b, rfl, by rw [getM, if_neg hne]; exact ha⟩
end
end Go.VC
/- SL, part 8: slices of any one-cell elements; bytes and strings. No condition. -/
namespace Go.VC
set_option linter.unusedVariables false
variable {P : Program} {R : Cx} {Hs : List HP} {w : World} {s : Sl} {T : TypeId}
theorem Ro.idxK {kd : IntKind} {xs : List Int} {S : World → Prop} (hr : Ro R s (xs.map (Value.int kd))) (hS : ∀ w, S w → Sat R Hs w) {k : Nat} (hk : k < xs.length) {F : Int → Prop} (h : F xs[k]) :
    Rng (k : Int) s.len (NilP s.a fun a => ∃ t : Int, (At S (a.add (k : Int).toNat) [.int kd t]) ∧ F t) := by
  obtain ⟨a, ha, hat⟩ := hr.addr (k := k) (by simpa using hk)
  have hl : s.len = xs.length := by have := hr.len; simpa using this
  refine Rng.mk (by omega) (by omega) (NilP.mk ha ⟨xs[k], ?_, h⟩)
  have := hat hS
  simpa using this
theorem Ro.idxStr {xs : List ByteArray} {S : World → Prop} (hr : Ro R s (xs.map Value.string)) (hS : ∀ w, S w → Sat R Hs w) {k : Nat} (hk : k < xs.length) {F : ByteArray → Prop} (h : F xs[k]) :
    Rng (k : Int) s.len (NilP s.a fun a => ∃ t : ByteArray, (At S (a.add (k : Int).toNat) [.string t]) ∧ F t) := by
  obtain ⟨a, ha, hat⟩ := hr.addr (k := k) (by simpa using hk)
  have hl : s.len = xs.length := by have := hr.len; simpa using this
  refine Rng.mk (by omega) (by omega) (NilP.mk ha ⟨xs[k], ?_, h⟩)
  have := hat hS
  simpa using this
theorem srcRo {t2 e' : TypeId} (ht : P.underlying t2 = some (.slice e')) {xs : List Value} (hw : Sat R Hs w) (hs : Ro R s xs) (h1 : oneAll xs = true) : Src P 1 t2 (.slice s.a s.len s.cap) xs.length xs w := by
  have hl : s.len = xs.length := hs.len
  by_cases hx : xs = []
  · subst hx
    obtain ⟨a, n, c⟩ := s
    simp only [List.length_nil] at hl
    subst hl
    cases a with
    | none => exact Go.Src.ofNil _ ht _
    | some a => exact Go.Src.ofSlice w ht _ 0 _ [] rfl (fun j u hj => by simp at hj) (fun u hu => by cases hu)
  · obtain ⟨b, off, l, T, fr, ha, hb, hel⟩ := hs.mem hx
    obtain ⟨a, n, c⟩ := s
    simp only at ha hl
    subst ha hl
    refine Go.Src.ofSlice w ht _ _ _ _ (by simp) (fun j u hj => ?_) (fun u hu => List.all_eq_true.1 h1 u hu)
    rw [add_off]
    have := hw.of_ro hb
    simp only [World.cell?, this, Option.isSome_none, Bool.false_eq_true, if_false]
    exact hel j u hj
def bytesL (s : ByteArray) : List Int := s.data.toList.map fun b => (b.toNat : Int)
theorem bytesL_len (s : ByteArray) : (bytesL s).length = s.size := by simp [bytesL]
theorem world_heap_ext {a b : World} (h : a.heap = b.heap) (h2 : { a with heap := b.heap } = b) : a = b := by rw [← h2, ← h]
theorem bytesWorld_alloc (w : World) (e : TypeId) (s : ByteArray) :
    Lib.bytesWorld w e s = w.drew.alloc (.cells (Lib.bytesCells w e s) e ((Lib.bytesCells w e s).size, (Lib.bytesCells w e s).size + 1)) := by
  have : (Lib.bytesWorld w e s).heap = (w.drew.alloc (.cells (Lib.bytesCells w e s) e ((Lib.bytesCells w e s).size, (Lib.bytesCells w e s).size + 1))).heap := by
    apply Array.ext_getElem?
    intro i
    by_cases hi : i < w.heap.size
    · rw [Lib.bytesWorld_at_old w e s i hi]
      simp [World.alloc, World.drew, -World.alloc_eq, -World.drew_eq, Array.getElem?_push, Nat.ne_of_lt hi]
    · by_cases h2 : i = w.heap.size
      · subst h2
        rw [Lib.bytesWorld_at_new]
        simp [World.alloc, World.drew, -World.alloc_eq, -World.drew_eq]
      · rw [Array.getElem?_eq_none (by rw [Lib.bytesWorld_size]; omega), Array.getElem?_eq_none (by simp [World.alloc, World.drew, -World.alloc_eq, -World.drew_eq]; omega)]
  exact world_heap_ext this rfl
theorem convB_rule {src dst : TypeId} {u : TypeDesc} (hs : P.underlying src = some u) (hd : P.underlying dst = some (.slice T)) (he : P.underlying T = some (.int .u8)) {b : ByteArray} {K : Sl → World → Prop}
    (hw : Sat R Hs w) (k : ∀ t w', Sat R (Own t T ((bytesL b).map (Value.int .u8)) :: Hs) w' → K t w') :
    ∃ w', ∃ t : Sl, (convert src dst (.string b)).run P w = .ok (.slice t.a t.len t.cap) w' ∧ K t w' := by
  refine ⟨_, ⟨some ⟨w.heap.size, 0, none⟩, b.size, grownCap w b.size 0 T⟩, Lib.run_convert_string_bytes w src dst T b hs hd he, k _ _ ?_⟩
  rw [bytesWorld_alloc]
  have hc : Lib.bytesCells w T b = ((bytesL b).map (Value.int .u8) ++ List.replicate (grownCap w b.size 0 T - b.size) (Value.int .u8 0)).toArray := by
    apply Array.ext'
    simp [Lib.bytesCells, bytesL, Function.comp_def]
  have h1 := Sat.alloc (Obj.cells (Lib.bytesCells w T b) T ((Lib.bytesCells w T b).size, (Lib.bytesCells w T b).size + 1)) hw.drew
  have hg := grownCap_ge w b.size 0 T
  rw [hc] at h1 ⊢
  have h2 := Own.of_pts h1 (.inr (by simp))
  have e : (⟨some ⟨w.drew.heap.size, 0, none⟩, ((bytesL b).map (Value.int .u8)).length, ((bytesL b).map (Value.int .u8) ++ List.replicate (grownCap w b.size 0 T - b.size) (Value.int .u8 0)).length⟩ : Sl) = ⟨some ⟨w.heap.size, 0, none⟩, b.size, grownCap w b.size 0 T⟩ := by
    simp only [List.length_append, List.length_map, List.length_replicate, bytesL_len, World.size_drew]
    congr 1
    omega
  rw [e] at h2
  exact h2
def strOf (xs : List Int) : ByteArray := ⟨(xs.map fun n => UInt8.ofNat n.toNat).toArray⟩
theorem convS_ro {src dst : TypeId} (hs : P.underlying src = some (.slice T)) (he : P.underlying T = some (.int .u8)) (hd : P.underlying dst = some .string) {xs : List Int}
    (hw : Sat R Hs w) (hr : Ro R s (xs.map (Value.int .u8))) : (convert src dst (.slice s.a s.len s.cap)).run P w = .ok (.string (strOf xs)) w := by
  have hl : s.len = xs.length := by have := hr.len; simpa using this
  by_cases hx : xs = []
  · subst hx
    obtain ⟨a, n, c⟩ := s
    simp only [List.length_nil] at hl
    subst hl
    cases a with
    | none => exact run_convert_bytes_nil w src T hs he _ _ dst hd
    | some a =>
      rw [run_convert_bytes_string w src dst T _ _ _ hs he hd, run_bytesToString w a 0 c [] (by simpa using run_loadCells_list (P := P) w a [] (fun j v hj => by simp at hj))]
      rfl
  · obtain ⟨b, off, l, T', fr, ha, hb, hel⟩ := hr.mem (by simpa using hx)
    obtain ⟨a, n, c⟩ := s
    simp only at ha hl
    subst ha hl
    refine (run_convert_bytes_arg w src T hs he b off _ c xs rfl (fun i hi => ?_) dst hd).trans rfl
    have := hw.of_ro hb
    simp only [World.cell?, this, Option.isSome_none, Bool.false_eq_true, if_false]
    refine hel i _ ?_
    simp [hi, List.getD]
end Go.VC
/- SL, part 9: what a call of the library leaves that changes no block that lay before: a new row of cells. No condition. -/
namespace Go.VC
set_option linter.unusedVariables false
open Go Go.RowKit
structure Keeps (w w' : World) : Prop where
  os : w'.os = w.os
  tape : w'.tape = w.tape
  output : w'.output = w.output
  block : ∀ k, k < w.heap.size → w'.heap[k]? = w.heap[k]?
end Go.VC
/- SL, part 10: slices whose elements are structs of n cells: one's own, or only read; elements, stores, append. No condition but bounds on lengths. -/
namespace Go.VC
set_option linter.unusedVariables false
open Go Go.RowKit
variable {P : Program} {R : Cx} {Hs Rest : List HP} {w : World} {s : Sl} {T : TypeId} {n : Nat}
def Wid (n : Nat) (rows : List (List Value)) : Prop := ∀ x ∈ rows, x.length = n
theorem Wid.nil {n : Nat} : Wid n [] := fun _ h => by cases h
theorem Wid.app {n : Nat} {a b : List (List Value)} (ha : Wid n a) (hb : Wid n b) : Wid n (a ++ b) := fun x hx => (List.mem_append.1 hx).elim (ha x) (hb x)
theorem Wid.one {n : Nat} {x : List Value} (h : x.length = n) : Wid n [x] := fun y hy => by simp at hy; rw [hy]; exact h
theorem Wid.len {n : Nat} : ∀ {rows : List (List Value)}, Wid n rows → rows.flatten.length = rows.length * n
  | [], _ => by simp
  | x :: rows, h => by
    rw [List.flatten_cons, List.length_append, h x List.mem_cons_self, Wid.len (rows := rows) (fun y hy => h y (List.mem_cons_of_mem _ hy)), List.length_cons, Nat.add_mul]
    omega
theorem Wid.drop_flat {n : Nat} : ∀ {rows : List (List Value)} (k : Nat), Wid n rows → rows.flatten.drop (k * n) = (rows.drop k).flatten
  | rows, 0, _ => by simp
  | [], k + 1, _ => by simp
  | x :: rows, k + 1, h => by
    have hx := h x List.mem_cons_self
    rw [List.flatten_cons, List.drop_succ_cons, ← Wid.drop_flat (rows := rows) k (fun y hy => h y (List.mem_cons_of_mem _ hy)), List.drop_append]
    have e1 : x.drop ((k + 1) * n) = [] := List.drop_eq_nil_of_le (by rw [hx, Nat.add_mul]; omega)
    have e2 : (k + 1) * n - x.length = k * n := by rw [hx, Nat.add_mul]; omega
    rw [e1, e2, List.nil_append]
theorem Wid.take_flat {n : Nat} {rows : List (List Value)} (k : Nat) (h : Wid n rows) : rows.flatten.take (k * n) = (rows.take k).flatten := by
  by_cases hk : k ≤ rows.length
  · have e : rows.flatten = (rows.take k).flatten ++ (rows.drop k).flatten := by rw [← List.flatten_append, List.take_append_drop]
    rw [e, List.take_left']
    rw [Wid.len (fun x hx => h x (List.mem_of_mem_take hx)), List.length_take, Nat.min_eq_left hk]
  · rw [List.take_of_length_le (by rw [h.len]; exact Nat.mul_le_mul_right _ (by omega)), List.take_of_length_le (by omega)]
theorem Wid.take {n k : Nat} {rows : List (List Value)} (h : Wid n rows) : Wid n (rows.take k) := fun x hx => h x (List.mem_of_mem_take hx)
theorem Wid.drop {n k : Nat} {rows : List (List Value)} (h : Wid n rows) : Wid n (rows.drop k) := fun x hx => h x (List.mem_of_mem_drop hx)
theorem Wid.set {n k : Nat} {rows : List (List Value)} {x : List Value} (h : Wid n rows) (hx : x.length = n) : Wid n (rows.set k x) := fun y hy => by
  rcases List.mem_or_eq_of_mem_set hy with hy | rfl
  · exact h y hy
  · exact hx
theorem Pre.app : ∀ {vs a : List Value} (b : List Value), Pre vs a → Pre vs (a ++ b)
  | [], _, _, _ => trivial
  | _ :: _, _ :: _, b, h => ⟨h.1, Pre.app b h.2⟩
  | _ :: _, [], _, h => h.elim
theorem Pre.len : ∀ {vs a : List Value}, Pre vs a → vs.length ≤ a.length
  | [], _, _ => Nat.zero_le _
  | _ :: _, _ :: _, h => by simp only [List.length_cons]; exact Nat.succ_le_succ (Pre.len h.2)
  | _ :: _, [], h => h.elim
theorem Wid.pre {n k j : Nat} {rows : List (List Value)} (rest : List Value) (h : Wid n rows) (hk : k < rows.length) {vs : List Value} (hp : Pre vs (rows[k].drop j)) : Pre vs ((rows.flatten ++ rest).drop (k * n + j)) := by
  cases vs with
  | nil => trivial
  | cons v vs =>
    have hj : j < rows[k].length := by
      have := Pre.len hp; simp only [List.length_cons, List.length_drop] at this; omega
    have hx : rows[k].length = n := h _ (List.getElem_mem _)
    have hle : k * n + j ≤ rows.flatten.length := by
      rw [h.len]
      have : (k + 1) * n ≤ rows.length * n := Nat.mul_le_mul_right _ (by omega)
      rw [Nat.add_mul] at this
      omega
    rw [List.drop_append_of_le_length hle, Nat.add_comm (k * n) j, ← List.drop_drop]
    rw [Nat.add_comm] at hle
    rw [List.drop_drop, Nat.add_comm j, ← List.drop_drop, h.drop_flat, List.drop_eq_getElem_cons hk, List.flatten_cons, List.drop_append_of_le_length (by omega), List.append_assoc]
    exact hp.app _
theorem set_flat {n : Nat} : ∀ {rows : List (List Value)} {k j : Nat} (v : Value), Wid n rows → (hk : k < rows.length) → j < n → rows.flatten.set (k * n + j) v = (rows.set k (rows[k].set j v)).flatten
  | [], k, j, v, _, hk, _ => by simp at hk
  | x :: rows, 0, j, v, h, _, hj => by
    have hx := h x List.mem_cons_self
    simp only [Nat.zero_mul, Nat.zero_add, List.flatten_cons, List.getElem_cons_zero, List.set_cons_zero]
    rw [List.set_append_left _ _ (by omega)]
  | x :: rows, k + 1, j, v, h, hk, hj => by
    have hx := h x List.mem_cons_self
    have hk' : k < rows.length := by simpa using hk
    simp only [List.flatten_cons, List.getElem_cons_succ, List.set_cons_succ]
    rw [List.set_append_right _ _ (by rw [hx, Nat.add_mul]; omega)]
    have e : (k + 1) * n + j - x.length = k * n + j := by rw [hx, Nat.add_mul]; omega
    rw [e, set_flat v (fun y hy => h y (List.mem_cons_of_mem _ hy)) hk' hj]
theorem putL_flat {n : Nat} {rest : List Value} : ∀ (vs : List Value) {rows : List (List Value)} {k j : Nat}, Wid n rows → (hk : k < rows.length) → j + vs.length ≤ n →
    putL (rows.flatten ++ rest) (k * n + j) vs = (rows.set k (putL rows[k] j vs)).flatten ++ rest
  | [], rows, k, j, _, hk, _ => by simp [putL]
  | v :: vs, rows, k, j, h, hk, hj => by
    simp only [List.length_cons] at hj
    have hb : k * n + j < rows.flatten.length := by
      rw [h.len]
      have : (k + 1) * n ≤ rows.length * n := Nat.mul_le_mul_right _ (by omega)
      rw [Nat.add_mul] at this
      omega
    rw [putL, List.set_append_left _ _ hb, set_flat v h hk (by omega), Nat.add_assoc, putL_flat vs (h.set (by rw [List.length_set]; exact h _ (List.getElem_mem _))) (by simpa using hk) (by omega)]
    simp [putL]
def OwnN (n : Nat) (s : Sl) (T : TypeId) (rows : List (List Value)) : HP := fun h =>
  Wid n rows ∧ ((s = ⟨none, 0, 0⟩ ∧ rows = [] ∧ h = Heap.none) ∨
    ∃ b rest fr cap, s = ⟨some ⟨b, 0, none⟩, rows.length, cap⟩ ∧ (rows.flatten ++ rest).length = cap * n ∧ okFr (cap * n) fr ∧ h = Heap.one b (.cells (rows.flatten ++ rest).toArray T fr))
theorem OwnN.nil (h : Sat R Hs w) : Sat R (OwnN n ⟨none, 0, 0⟩ T [] :: Hs) w :=
  ⟨Heap.none, ⟨Wid.nil, .inl ⟨rfl, rfl, rfl⟩⟩, fun i hi => absurd rfl hi, by rw [Cx.add_none]; exact h⟩
theorem OwnN.of_pts {b cap : Nat} {fr : Nat × Nat} {rows : List (List Value)} {rest : List Value} (hwid : Wid n rows) (hl : (rows.flatten ++ rest).length = cap * n) (h : Sat R (pts b (.cells (rows.flatten ++ rest).toArray T fr) :: Hs) w)
    (hf : okFr (cap * n) fr := by first | assumption | exact Or.inl rfl) : Sat R (OwnN n ⟨some ⟨b, 0, none⟩, rows.length, cap⟩ T rows :: Hs) w :=
  let ⟨a, ha, hd, hs⟩ := h; ⟨a, ⟨hwid, .inr ⟨b, rest, fr, cap, rfl, hl, hf, ha⟩⟩, hd, hs⟩
theorem OwnN.cases {rows : List (List Value)} (h : Sat R (OwnN n s T rows :: Hs) w) : Wid n rows ∧
    ((s = ⟨none, 0, 0⟩ ∧ rows = [] ∧ Sat R Hs w) ∨ ∃ b rest fr cap, s = ⟨some ⟨b, 0, none⟩, rows.length, cap⟩ ∧ (rows.flatten ++ rest).length = cap * n ∧ okFr (cap * n) fr ∧ Sat R (pts b (.cells (rows.flatten ++ rest).toArray T fr) :: Hs) w) := by
  obtain ⟨a, ⟨hwid, ha⟩, hd, hs⟩ := h
  refine ⟨hwid, ?_⟩
  rcases ha with ⟨h1, h2, rfl⟩ | ⟨b, rest, fr, cap, h1, h3, hf, rfl⟩
  · rw [Cx.add_none] at hs; exact .inl ⟨h1, h2, hs⟩
  · exact .inr ⟨b, rest, fr, cap, h1, h3, hf, _, rfl, hd, hs⟩
theorem OwnN.wid {rows : List (List Value)} (h : Sat R (OwnN n s T rows :: Hs) w) : Wid n rows := (OwnN.cases h).1
theorem OwnN.len {rows : List (List Value)} (h : Sat R (OwnN n s T rows :: Hs) w) : s.len = rows.length := by
  rcases (OwnN.cases h).2 with ⟨rfl, rfl, _⟩ | ⟨b, rest, fr, cap, rfl, _, _⟩ <;> rfl
theorem OwnN.cap {rows : List (List Value)} (hn : 0 < n) (h : Sat R (OwnN n s T rows :: Hs) w) : s.len ≤ s.cap := by
  have hwid := (OwnN.cases h).1
  rcases (OwnN.cases h).2 with ⟨rfl, rfl, _⟩ | ⟨b, rest, fr, cap, rfl, hl, _⟩
  · exact Nat.le_refl _
  · rw [List.length_append, hwid.len] at hl
    simp only
    have : rows.length * n ≤ cap * n := by omega
    exact Nat.le_of_mul_le_mul_right this hn
def ReadsN (n : Nat) (s : Sl) (rows : List (List Value)) (S : World → Prop) : Prop :=
  s.len = rows.length ∧ ∀ k (hk : k < rows.length), ∃ b off, s.a = some ⟨b, off, none⟩ ∧ ∀ j vs, Pre vs (rows[k].drop j) → At S ⟨b, off + (k * n + j), none⟩ vs
theorem OwnN.reads {rows : List (List Value)} (hw : Sat R (OwnN n s T rows :: Hs) w) {S : World → Prop} {Hs'} (hS : ∀ w, S w → Sat R (OwnN n s T rows :: Hs') w) : ReadsN n s rows S := by
  refine ⟨OwnN.len hw, fun k hk => ?_⟩
  obtain ⟨hwid, ⟨_, rfl, _⟩ | ⟨b, rest, fr, cap, rfl, hl, _, _⟩⟩ := OwnN.cases hw
  · simp at hk
  · refine ⟨b, 0, rfl, fun j vs hp w hw i v hv => ?_⟩
    obtain ⟨_, ⟨h0, _, _⟩ | ⟨b', rest', fr', cap', he, _, _, h⟩⟩ := OwnN.cases (hS w hw)
    · cases h0
    · simp only [Sl.mk.injEq, Option.some.injEq, Addr.mk.injEq, and_true] at he
      obtain ⟨rfl, _⟩ := he
      have := (Wid.pre rest' hwid hk hp).get i v hv
      rw [List.getElem?_drop] at this
      rw [add_off, Nat.zero_add, cell_of h.at, this]
theorem ReadsN.rng {S : World → Prop} {rows : List (List Value)} (h : ReadsN n s rows S) {k : Nat} (hk : k < rows.length) {F : Addr → Prop} (f : ∀ b off, s.a = some ⟨b, off, none⟩ → (∀ j vs, Pre vs (rows[k].drop j) → At S ⟨b, off + (k * n + j), none⟩ vs) → F ⟨b, off, none⟩) :
    Rng (k : Int) s.len (NilP s.a F) := by
  obtain ⟨b, off, ha, hat⟩ := h.2 k hk
  have := h.1
  exact Rng.mk (by omega) (by omega) (NilP.mk ha (f b off ha hat))
theorem elt_addr (b off k n j : Nat) : (⟨(Addr.add ⟨b, off, none⟩ (mulS k n)).block, (Addr.add ⟨b, off, none⟩ (mulS k n)).off + j, none⟩ : Addr) = ⟨b, off + (k * n + j), none⟩ := by
  rw [add_off, mulS_eq]; simp only [Addr.mk.injEq, and_true, true_and]; omega
theorem elt_addr0 (b off k n : Nat) : Addr.add ⟨b, off, none⟩ (mulS k n) = ⟨b, off + (k * n + 0), none⟩ := by
  rw [add_off, mulS_eq]; rfl
theorem OwnN.store {rows : List (List Value)} {t : TypeId} {v : Value} {k j : Nat} {b off : Nat} {K : World → Prop} (hw : Sat R (OwnN n s T rows :: Hs) w) (ha : s.a = some ⟨b, off, none⟩) (hsz : (P.info? t).map (·.size) = some v.cells.toList.length) (h1 : oneAll v.cells.toList = true)
    (hk : k < rows.length) (hj : j + v.cells.toList.length ≤ n) (h : ∀ w', Sat R (OwnN n s T (rows.set k (putL rows[k] j v.cells.toList)) :: Hs) w' → K w') :
    ∃ w', (Instr.storeAt t (.pointer (some ⟨b, off + (k * n + j), none⟩)) v).run P w = .ok () w' ∧ K w' := by
  obtain ⟨hwid, ⟨rfl, _, _⟩ | ⟨b', rest, fr, cap, rfl, hl, hf, hp⟩⟩ := OwnN.cases hw
  · cases ha
  · simp only [Option.some.injEq, Addr.mk.injEq, and_true] at ha
    obtain ⟨rfl, rfl⟩ := ha
    have hlt : (k + 1) * n ≤ rows.length * n := Nat.mul_le_mul_right _ (by omega)
    rw [Nat.add_mul] at hlt
    have hll := hl
    rw [List.length_append, hwid.len] at hll
    rw [Nat.zero_add]
    refine store_rule hp hsz h1 (by rw [List.length_append, hwid.len]; omega) (fun w' h2 => h w' ?_) (by rw [hl]; exact hf)
    rw [putL_flat _ hwid hk hj] at h2
    have hl2 : (putL rows[k] j v.cells.toList).length = n := by rw [putL_len]; exact hwid _ (List.getElem_mem _)
    have := OwnN.of_pts (cap := cap) (hwid.set hl2) (by rw [← hl, List.length_append, List.length_append, (hwid.set hl2).len, List.length_set, hwid.len]) h2
    rw [List.length_set] at this
    exact this
structure RoN (n : Nat) (R : Cx) (s : Sl) (rows : List (List Value)) : Prop where
  wid : Wid n rows
  len : s.len = rows.length
  mem : rows ≠ [] → ∃ b off l T fr, s.a = some ⟨b, off, none⟩ ∧ R.m b = some (.cells l T fr) ∧ ∀ (i : Nat) v, rows.flatten[i]? = some v → l[off + i]? = some v
theorem RoN.add {h : Heap} {rows : List (List Value)} (hr : RoN n R s rows) : RoN n (R.add h) s rows :=
  ⟨hr.wid, hr.len, fun hx => let ⟨b, off, l, T, fr, ha, hb, hl⟩ := hr.mem hx; ⟨b, off, l, T, fr, ha, Cx.kept hb, hl⟩⟩
theorem RoN.reads {rows : List (List Value)} (hr : RoN n R s rows) {S : World → Prop} {Hs'} (hS : ∀ w, S w → Sat R Hs' w) : ReadsN n s rows S := by
  refine ⟨hr.len, fun k hk => ?_⟩
  obtain ⟨b, off, l, T, fr, ha, hb, hl⟩ := hr.mem (fun h => by rw [h] at hk; simp at hk)
  refine ⟨b, off, ha, fun j vs hp w hw i v hv => ?_⟩
  have h1 := (Wid.pre [] hr.wid hk hp).get i v hv
  rw [List.append_nil, List.getElem?_drop] at h1
  have := (hS w hw).of_ro hb
  rw [add_off]
  simp only [World.cell?, this, Option.isSome_none, Bool.false_eq_true, if_false]
  rw [Nat.add_assoc]
  exact hl _ _ h1
theorem OwnN.lend {rows : List (List Value)} (h : Sat R (OwnN n s T rows :: Hs) w) :
    ∃ R' : Cx, RoN n R' s rows ∧ (∃ x, R' = R.add x) ∧ Sat R' Hs w ∧ ∀ {Hs' w'}, Sat R' Hs' w' → Sat R (OwnN n s T rows :: Hs') w' := by
  obtain ⟨hwid, ⟨rfl, rfl, h2⟩ | ⟨b, rest, fr, cap, rfl, hl, hf, h2⟩⟩ := OwnN.cases h
  · exact ⟨R, ⟨hwid, rfl, fun h => absurd rfl h⟩, ⟨Heap.none, (Cx.add_none R).symm⟩, h2, fun h => OwnN.nil h⟩
  · obtain ⟨hn, h3⟩ := Sat.lend.1 h2
    refine ⟨_, ⟨hwid, rfl, fun _ => ⟨b, 0, _, T, fr, rfl, Cx.lent hn, fun i v hv => ?_⟩⟩, ⟨_, rfl⟩, h3, fun h => OwnN.of_pts hwid hl (Sat.lend.2 ⟨hn, h⟩)⟩
    obtain ⟨hi, rfl⟩ := List.getElem?_eq_some_iff.1 hv
    simp [List.getElem?_append_left hi]
theorem RoN.sub {rows : List (List Value)} (hr : RoN n R s rows) {l h m : Nat} (hlh : l ≤ h) (hh : h ≤ rows.length) (hm : m = l → h = l) : RoN n R ⟨cutA s.a l m n, h - l, m - l⟩ ((rows.take h).drop l) := by
  have hwid : Wid n ((rows.take h).drop l) := hr.wid.take.drop
  refine ⟨hwid, by simp; omega, fun hne => ?_⟩
  have hlt : l < h := by
    have : 0 < ((rows.take h).drop l).length := List.length_pos_iff.2 hne
    simp at this; omega
  obtain ⟨b, off, ls, T, fr, ha, hb, hl⟩ := hr.mem (fun h0 => by rw [h0] at hh; simp at hh; omega)
  refine ⟨b, off + l * n, ls, T, fr, ?_, hb, fun i v hv => ?_⟩
  · unfold cutA
    rw [if_neg (fun e => by have := hm e; omega), ha]
    simp [add_off]
  · rw [Nat.add_assoc]
    refine hl _ _ ?_
    have e1 : ((rows.take h).drop l).flatten = (rows.flatten.take (h * n)).drop (l * n) := by
      rw [hr.wid.take_flat, hr.wid.take.drop_flat]
    rw [e1, List.getElem?_drop] at hv
    rw [List.getElem?_take] at hv
    split at hv
    · exact hv
    · cases hv
theorem RoN.take {rows : List (List Value)} (hr : RoN n R s rows) {h : Nat} (hh : h ≤ rows.length) (c : Nat) : RoN n R ⟨s.a, h, c⟩ (rows.take h) :=
  ⟨hr.wid.take, by simp; omega, fun hne => by
    obtain ⟨b, off, ls, T, fr, ha, hb, hl⟩ := hr.mem (fun h0 => hne (by rw [h0]; simp))
    refine ⟨b, off, ls, T, fr, ha, hb, fun i v hv => hl _ _ ?_⟩
    rw [← hr.wid.take_flat, List.getElem?_take] at hv
    split at hv
    · exact hv
    · cases hv⟩
def elBN (P : Program) (T : TypeId) (n bytes : Nat) : Bool :=
  match P.info? T with
  | some i => match i.zero with
    | some z => i.size == n && i.bytes == bytes && z.cells.size == n
    | none => false
  | none => false
structure ElN (P : Program) (t1 t2 T : TypeId) (n bytes : Nat) : Prop where
  ht : P.underlying t1 = some (.slice T)
  hk : ∃ e', P.underlying t2 = some (.slice e')
  hi : elBN P T n bytes = true
theorem OwnN.empty {b : Nat} {fr : Nat × Nat} (h : Sat R (pts b (.cells #[] T fr) :: Hs) w) : Sat R (OwnN n ⟨some ⟨b, 0, none⟩, 0, 0⟩ T [] :: Hs) w :=
  OwnN.of_pts (rows := []) (rest := []) (cap := 0) Wid.nil (by simp) h (.inr (by simp))
structure Elt (n : Nat) (S : World → Prop) (a : Addr) (k : Nat) (row : List Value) : Prop where
  f : ∀ (j : Nat) {vs : List Value}, Pre vs (row.drop j) → At S ⟨(Addr.add a (mulS (k : Int).toNat n)).block, (Addr.add a (mulS (k : Int).toNat n)).off + j, none⟩ vs
  z : ∀ {vs : List Value}, Pre vs row → At S (Addr.add a (mulS (k : Int).toNat n)) vs
  zz : ∀ {vs : List Value}, Pre vs row → At S (Addr.add (Addr.add a (mulS (k : Int).toNat n)) 0) vs
class Arr (Hs Hs' : List HP) : Prop where
  perm : Hs.Perm Hs'
instance (priority := 2000) Arr.refl {Hs : List HP} : Arr Hs Hs := ⟨List.Perm.refl _⟩
instance Arr.cons {A : HP} {Hs Rest Hs' : List HP} [t : Take A Hs Rest] [r : Arr Rest Hs'] : Arr Hs (A :: Hs') := ⟨t.perm.trans (r.perm.cons A)⟩
theorem Sat.arr {Hs' : List HP} (h : Sat R Hs w) [a : Arr Hs Hs'] : Sat R Hs' w := h.perm a.perm
theorem Br.d {p : Prop} {inst : Decidable p} {A B : Prop} (h : p → A) (h' : ¬ p → B) : Br (@decide p inst) A B := Br.mk (fun e => h (of_decide_eq_true e)) (fun e => h' (of_decide_eq_false e))
theorem Br.nd {p : Prop} {inst : Decidable p} {A B : Prop} (h : ¬ p → A) (h' : p → B) : Br (!@decide p inst) A B := Br.mk (fun e => h (by simpa using e)) (fun e => h' (by simpa using e))
theorem Br.e {x y : Int} {A B : Prop} (h : x = y → A) (h' : ¬ x = y → B) : Br (x == y) A B := Br.mk (fun e => h (by simpa using e)) (fun e => h' (by simpa using e))
theorem Br.ne {x y : Int} {A B : Prop} (h : ¬ x = y → A) (h' : x = y → B) : Br (x != y) A B := Br.mk (fun e => h (by simpa using e)) (fun e => h' (by simpa using e))
theorem Br.nb {b : Bool} {A B : Prop} (h : b = false → A) (h' : b = true → B) : Br (!b) A B := Br.mk (fun e => h (by simpa using e)) (fun e => h' (by simpa using e))
theorem str_eql (a b : ByteArray) : (a.toList == b.toList) = decide (a = b) := by
  rw [ByteArray.toList_eq, ByteArray.toList_eq]
  by_cases h : a = b
  · simp [h]
  · have : a.data ≠ b.data := fun h2 => h (by cases a; cases b; simp_all)
    simp [h, this]
theorem Br.se {x y : ByteArray} {A B : Prop} (h : x = y → A) (h' : ¬ x = y → B) : Br (x.toList == y.toList) A B := by rw [str_eql]; exact Br.d h h'
theorem Br.sne {x y : ByteArray} {A B : Prop} (h : ¬ x = y → A) (h' : x = y → B) : Br (!(x.toList == y.toList)) A B := by rw [str_eql]; exact Br.nd h h'
end Go.VC
/- Integers of other kinds: wrapping, bits, shifts, as the formulas ask for them. No condition but ranges. -/
namespace Go.VC
set_option linter.unusedVariables false
theorem wrapU8 {x : Int} (h0 : 0 ≤ x) (h1 : x < 256) : IntKind.u8.wrap x = x := by rw [IntKind.wrap_u8']; omega
theorem wrapU8m (x : Int) : IntKind.u8.wrap x = x % 256 := IntKind.wrap_u8' x
theorem wrapU64 {x : Int} (h0 : 0 ≤ x) (h1 : x < 18446744073709551616) : IntKind.u64.wrap x = x := by rw [IntKind.wrap_u64]; omega
theorem bv_toNat (n x : Nat) (h : x < 2 ^ n) : (BitVec.ofInt n (x : Int)).toNat = x := by
  rw [BitVec.toNat_ofInt]
  have : ((x : Int) % (2 ^ n : Nat)) = x := Int.emod_eq_of_lt (by omega) (by exact_mod_cast h)
  rw [this]; rfl
theorem orU64 {x y : Nat} (hx : x < 18446744073709551616) (hy : y < 18446744073709551616) : bitI .or .u64 x y = ((x ||| y : Nat) : Int) := by
  have e : (BitVec.ofInt 64 (x : Int) ||| BitVec.ofInt 64 (y : Int)).toNat = x ||| y := by rw [BitVec.toNat_or, bv_toNat 64 x hx, bv_toNat 64 y hy]
  show IntKind.u64.wrap (((BitVec.ofInt 64 (x : Int) ||| BitVec.ofInt 64 (y : Int)).toNat : Nat) : Int) = _
  rw [e]
  have : x ||| y < 18446744073709551616 := Nat.or_lt_two_pow (n := 64) hx hy
  exact wrapU64 (by omega) (by omega)
theorem or_byte (x y : Nat) (hy : y < 256) : x * 256 ||| y = x * 256 + y := by
  have := Nat.two_pow_add_eq_or_of_lt (i := 8) (b := y) (by omega) x
  rw [Nat.mul_comm] at this
  exact this.symm
end Go.VC
/- SL, part 11: slices that are only read, as memory of one's own: lent, cut, given back. No condition. -/
namespace Go.VC
set_option linter.unusedVariables false
variable {P : Program} {R : Cx} {Hs Rest : List HP} {w : World} {s : Sl}
structure SlR (h : Heap) (s : Sl) (xs : List Value) : Prop where
  len : s.len = xs.length
  cap : s.len ≤ s.cap
  mem : xs ≠ [] → ∃ b off l T fr, s.a = some ⟨b, off, none⟩ ∧ h b = some (.cells l T fr) ∧ ∀ (i : Nat) v, xs[i]? = some v → l[off + i]? = some v
def Reads (s : Sl) (xs : List Value) : HP := fun h => SlR h s xs
theorem SlR.add {h h' : Heap} {xs : List Value} (a : SlR h s xs) : SlR (h.add h') s xs :=
  ⟨a.len, a.cap, fun hx => let ⟨b, off, l, T, fr, ha, hb, hl⟩ := a.mem hx; ⟨b, off, l, T, fr, ha, by simp only [Heap.add, hb], hl⟩⟩
theorem SlR.addR {h h' : Heap} {xs : List Value} (hd : h'.dis h) (a : SlR h s xs) : SlR (h'.add h) s xs :=
  ⟨a.len, a.cap, fun hx => let ⟨b, off, l, T, fr, ha, hb, hl⟩ := a.mem hx; ⟨b, off, l, T, fr, ha, by
    simp only [Heap.add, hd b (by rw [hb]; simp)]; exact hb, hl⟩⟩
theorem SlR.ro {xs : List Value} (a : SlR R.m s xs) (hb : xs.length ≤ 9223372036854775807) : Ro R s xs :=
  ⟨a.len, hb, a.mem⟩
theorem SlR.take {h : Heap} {xs : List Value} (a : SlR h s xs) {k : Nat} (hk : k ≤ xs.length) : SlR h ⟨s.a, k, s.cap⟩ (xs.take k) :=
  ⟨by simp; omega, by have := a.len; have := a.cap; simp only; omega, fun hx => by
    obtain ⟨b, off, l, T, fr, ha, hb, hl⟩ := a.mem (fun h0 => hx (by rw [h0]; simp))
    refine ⟨b, off, l, T, fr, ha, hb, fun i v hv => hl i v ?_⟩
    rw [List.getElem?_take] at hv
    split at hv
    · exact hv
    · cases hv⟩
theorem SlR.drop {h : Heap} {xs : List Value} (a : SlR h s xs) {k : Nat} (hk : k ≤ xs.length) : SlR h ⟨cutA s.a k s.cap 1, s.len - k, s.cap - k⟩ (xs.drop k) := by
  have hlen := a.len
  have hcap := a.cap
  refine ⟨by simp; omega, by simp only; omega, fun hx => ?_⟩
  obtain ⟨b, off, l, T, fr, ha, hb, hl⟩ := a.mem (fun h0 => hx (by rw [h0]; simp))
  have hlt : 0 < (xs.drop k).length := List.length_pos_iff.2 hx
  rw [List.length_drop] at hlt
  refine ⟨b, off + k, l, T, fr, ?_, hb, fun i v hv => ?_⟩
  · unfold cutA
    rw [if_neg (by omega), ha]
    simp [add_off]
  · rw [List.getElem?_drop] at hv
    rw [Nat.add_assoc]
    exact hl _ _ hv
theorem Reads.lend {xs : List Value} (h : Sat R (Reads s xs :: Hs) w) : ∃ x : Heap, R.dis x ∧ SlR (R.add x).m s xs ∧ Sat (R.add x) Hs w ∧ SlR x s xs := by
  obtain ⟨x, hx, hd, hs⟩ := h
  exact ⟨x, hd, SlR.addR hd hx, hs, hx⟩
theorem Reads.back {xs : List Value} {x : Heap} (hd : R.dis x) (hx : SlR x s xs) (h : Sat (R.add x) Hs w) : Sat R (Reads s xs :: Hs) w := ⟨x, hx, hd, h⟩
theorem Own.reads {T : TypeId} {xs : List Value} (h : Sat R (Own s T xs :: Hs) w) : Sat R (Reads s xs :: Hs) w := by
  rcases Own.cases h with ⟨rfl, rfl, h2⟩ | ⟨b, rest, fr, rfl, hf, h2⟩
  · exact ⟨Heap.none, ⟨rfl, Nat.le_refl _, fun h => absurd rfl h⟩, fun i hi => absurd rfl hi, by rw [Cx.add_none]; exact h2⟩
  · obtain ⟨a, ha, hd, hs⟩ := h2
    refine ⟨a, ⟨rfl, by simp, fun _ => ⟨b, 0, (xs ++ rest).toArray, T, fr, rfl, by rw [ha]; simp [Heap.one], fun i v hv => ?_⟩⟩, hd, hs⟩
    obtain ⟨hi, rfl⟩ := List.getElem?_eq_some_iff.1 hv
    simp [List.getElem?_append_left hi]
theorem SlR.idxK {kd : IntKind} {xs : List Int} {S : World → Prop} (hr : SlR R.m s (xs.map (Value.int kd))) (hS : ∀ w, S w → Sat R Hs w) {k : Nat} (hk : k < xs.length) {F : Int → Prop} (h : F xs[k]) :
    Rng (k : Int) s.len (NilP s.a fun a => ∃ t : Int, (At S (a.add (k : Int).toNat) [.int kd t]) ∧ F t) := by
  have hl : s.len = xs.length := by have := hr.len; simpa using this
  obtain ⟨b, off, l, T, fr, ha, hb, hel⟩ := hr.mem (by intro h0; rw [List.map_eq_nil_iff] at h0; rw [h0] at hk; simp at hk)
  refine Rng.mk (by omega) (by omega) (NilP.mk ha ⟨xs[k], fun w hw i v hv => ?_, h⟩)
  have hi : i = 0 := by
    cases i with
    | zero => rfl
    | succ i => simp at hv
  subst hi
  simp only [List.getElem?_cons_zero, Option.some.injEq] at hv
  subst hv
  rw [Int.toNat_natCast, add_off, add_off]
  have := (hS w hw).of_ro hb
  simp only [World.cell?, this, Option.isSome_none, Bool.false_eq_true, if_false]
  exact hel k _ (by simp [hk])
end Go.VC
/- Slices of bytes: Clone. No condition. -/
namespace Go.Proofs.YtfgbbckfikiomaaGreatDoor
set_option linter.unusedVariables false
open Go Go.VC
variable {R : Cx} {Hs Rest : List HP} {w : World}
theorem _root_.Go.VC.Sat.re {A : HP} (B : HP) (h : Sat R (A :: Hs) w) (e : A = B := by rfl) : Sat R (B :: Hs) w := e ▸ h
abbrev b8 (l : List Int) : List Value := l.map (Value.int .u8)
theorem elB8 : El Tryz.prog 42 42 5 1 := ⟨Tryz.underlying42, ⟨_, Tryz.underlying42⟩, by kernel_rfl⟩
theorem one_b8 (xs : List Int) : oneAll (b8 xs) = true := by unfold oneAll; simp [Value.oneCell']
theorem clone_spec {s : Sl} {xs : List Int} (hs : Ro R s (b8 xs)) (hl : xs.length ≤ 1099511627776) (hw : Sat R Hs w) :
    Gets Tryz.prog 146 #[.slice s.a s.len s.cap] w fun r w' => ∃ t : Sl, r = .slice t.a t.len t.cap ∧ Sat R (Own t 5 (b8 xs) :: Hs) w' := by
  apply call146
  refine Br.mk (fun h => ?_) (fun h => ?_)
  · have hx : xs = [] := by
      by_cases hx : b8 xs = []
      · simpa using hx
      · obtain ⟨b, off, _, _, _, ha, _⟩ := hs.mem hx
        rw [ha] at h; cases h
    subst hx
    exact ⟨⟨none, 0, 0⟩, rfl, Own.nil hw⟩
  · refine new_rule hw fun b w hw => ?_
    have h0 : Sat R (Own ⟨some ⟨b, 0, none⟩, 0, 0⟩ 5 [] :: Hs) w := Own.of_pts (xs := []) (rest := []) hw
    have hsrc : Src Tryz.prog 1 42 (.slice s.a s.len s.cap) xs.length (b8 xs) w := by
      have := srcRo Tryz.underlying42 h0 hs (one_b8 xs)
      simpa using this
    have := append_rule (ty := 42) (K := fun t w' => ∃ u : Sl, Value.slice t.a t.len t.cap = .slice u.a u.len u.cap ∧ Sat R (Own u 5 (b8 xs) :: Hs) w') elB8 h0 hsrc rfl (by simp; omega) (by simp; omega) fun t w hw => ⟨t, rfl, by simpa using hw⟩
    exact this
end Go.Proofs.YtfgbbckfikiomaaGreatDoor
/- Codes of numbers and of bytes, plain. No program. No condition. -/
namespace Go.VC
set_option linter.unusedVariables false
def dig (n : Nat) : List Int := if h : n = 0 then [] else dig (n / 256) ++ [((n % 256 : Nat) : Int)]
termination_by n
decreasing_by omega
theorem dig_zero : dig 0 = [] := by unfold dig; simp
theorem dig_pos {n : Nat} (h : n ≠ 0) : dig n = dig (n / 256) ++ [((n % 256 : Nat) : Int)] := by
  conv => lhs; unfold dig
  rw [dif_neg h]
def valI (acc : Int) (l : List Int) : Int := l.foldl (fun a b => a * 256 + b) acc
theorem valI_cons (acc b : Int) (l : List Int) : valI acc (b :: l) = valI (acc * 256 + b) l := rfl
theorem valI_app (acc : Int) (a b : List Int) : valI acc (a ++ b) = valI (valI acc a) b := List.foldl_append
theorem valI_snoc (acc : Int) (a : List Int) (b : Int) : valI acc (a ++ [b]) = valI acc a * 256 + b := by rw [valI_app]; rfl
theorem valI_nn : ∀ {l : List Int} {acc : Int}, 0 ≤ acc → (∀ x ∈ l, 0 ≤ x ∧ x < 256) → 0 ≤ valI acc l
  | [], _, h, _ => h
  | b :: l, acc, h, hb => by
    rw [valI_cons]
    have := hb b List.mem_cons_self
    exact valI_nn (by omega) fun x hx => hb x (List.mem_cons_of_mem _ hx)
theorem valI_lt : ∀ {l : List Int} {acc : Int}, 0 ≤ acc → (∀ x ∈ l, 0 ≤ x ∧ x < 256) → valI acc l < (acc + 1) * 256 ^ l.length
  | [], acc, h, _ => by simp [valI]; omega
  | b :: l, acc, h, hb => by
    rw [valI_cons]
    have h1 := hb b List.mem_cons_self
    have := valI_lt (l := l) (acc := acc * 256 + b) (by omega) fun x hx => hb x (List.mem_cons_of_mem _ hx)
    refine Int.lt_of_lt_of_le this ?_
    rw [List.length_cons, Int.pow_succ, Int.mul_comm (256 ^ l.length) 256, ← Int.mul_assoc]
    exact Int.mul_le_mul_of_nonneg_right (by omega) (Int.le_of_lt (Int.pow_pos (by decide)))
theorem dig_len_le : ∀ (k n : Nat), n < 256 ^ k → (dig n).length ≤ k
  | 0, n, h => by
    have : n = 0 := by simpa using h
    subst this; rw [dig_zero]; simp
  | k + 1, n, h => by
    by_cases h0 : n = 0
    · subst h0; rw [dig_zero]; simp
    · rw [dig_pos h0, List.length_append]
      have := dig_len_le k (n / 256) (by rw [Nat.pow_succ] at h; exact Nat.div_lt_of_lt_mul (by rwa [Nat.mul_comm] at h))
      simp; omega
theorem dig_len8 {n : Nat} (h : n < 18446744073709551616) : (dig n).length ≤ 8 := dig_len_le 8 n (by simpa using h)
theorem dig_width (n : Nat) (h : n < 18446744073709551616) : (Lib.bitLen n + 7) / 8 = (dig n).length := by
  induction n using Nat.strongRecOn with
  | ind n ih =>
    by_cases h0 : n = 0
    · subst h0; rw [dig_zero]; decide
    · rw [dig_pos h0, List.length_append]
      by_cases h1 : 256 ≤ n
      · rw [Lib.bitLen_shift8 n h1 h, ← ih (n / 256) (by omega) (by omega)]
        simp; omega
      · have e : n / 256 = 0 := by omega
        rw [e, dig_zero]
        have h2 : ∀ m : Fin 256, m.val ≠ 0 → (Lib.bitLen m.val + 7) / 8 = 1 := by decide +kernel
        simpa using h2 ⟨n, by omega⟩ h0
theorem dig_drop : ∀ (k n : Nat), k ≤ (dig n).length → (dig n).take ((dig n).length - k) = dig (n / 256 ^ k)
  | 0, n, _ => by simp
  | k + 1, n, h => by
    by_cases h0 : n = 0
    · subst h0; rw [dig_zero] at h; simp at h
    · rw [dig_pos h0] at h ⊢
      rw [List.length_append] at h ⊢
      simp only [List.length_cons, List.length_nil] at h ⊢
      have e : (dig (n / 256)).length + (0 + 1) - (k + 1) = (dig (n / 256)).length - k := by omega
      rw [e, List.take_append_of_le_length (by omega), dig_drop k (n / 256) (by omega), Nat.div_div_eq_div_mul, Nat.pow_succ, Nat.mul_comm 256]
theorem dig_get {n k : Nat} (h : k < (dig n).length) : (dig n)[(dig n).length - 1 - k]'(by omega) = ((n / 256 ^ k % 256 : Nat) : Int) := by
  have h1 := dig_drop k n (by omega)
  have hn : n / 256 ^ k ≠ 0 := by
    intro h0
    rw [h0, dig_zero] at h1
    have := congrArg List.length h1
    simp at this; omega
  rw [dig_pos hn] at h1
  have h2 : ((dig n).take ((dig n).length - k)).getLast? = some ((n / 256 ^ k % 256 : Nat) : Int) := by rw [h1]; simp
  rw [List.getLast?_eq_getElem?, List.length_take, Nat.min_eq_left (by omega), List.getElem?_take] at h2
  split at h2
  · rw [List.getElem?_eq_some_iff] at h2
    obtain ⟨h3, h4⟩ := h2
    have e : (dig n).length - 1 - k = (dig n).length - k - 1 := by omega
    simp only [e]
    exact h4
  · cases h2
def numB (n : Nat) : List Int := ((dig n).length : Int) :: dig n
def textB (b : List Int) : List Int := numB b.length ++ b
theorem numB_len {n : Nat} (h : n < 18446744073709551616) : (numB n).length ≤ 9 := by
  have := dig_len8 h; unfold numB; simp; omega
def parse (l : List Int) : Option (Int × Bool × Nat) :=
  match l with
  | [] => none
  | k :: rest =>
    let neg := decide (16 ≤ k)
    let w := (if 16 ≤ k then k - 16 else k).toNat
    if k < 32 ∧ w ≤ 8 ∧ w ≤ rest.length ∧ (w = 0 → k = 0) ∧ (w ≠ 0 → rest.head? ≠ some 0) then some (valI 0 (rest.take w), neg, w + 1) else none
theorem parse_bd {l : List Int} {n : Int} {neg : Bool} {k : Nat} (hb : ∀ x ∈ l, 0 ≤ x ∧ x < 256) (h : parse l = some (n, neg, k)) : 0 ≤ n ∧ n < 18446744073709551616 ∧ 1 ≤ k ∧ k ≤ 9 ∧ k ≤ l.length := by
  unfold parse at h
  split at h
  · cases h
  · rename_i c rest
    simp only at h
    generalize hw : (if 16 ≤ c then c - 16 else c).toNat = w at h
    split at h
    · rename_i hc
      obtain ⟨_, h8, hr, _, _⟩ := hc
      simp only [Option.some.injEq, Prod.mk.injEq] at h
      obtain ⟨rfl, _, rfl⟩ := h
      have hb2 : ∀ x ∈ rest.take w, 0 ≤ x ∧ x < 256 := fun x hx => hb x (List.mem_cons_of_mem _ (List.mem_of_mem_take hx))
      refine ⟨valI_nn (Int.le_refl _) hb2, ?_, by omega, by omega, by simp; omega⟩
      refine Int.lt_of_lt_of_le (valI_lt (Int.le_refl _) hb2) ?_
      rw [List.length_take, Nat.min_eq_left hr, Int.zero_add, Int.one_mul]
      have h9 : 256 ^ w ≤ 256 ^ 8 := Nat.pow_le_pow_right (by omega) h8
      have : ((256 ^ w : Nat) : Int) ≤ ((256 ^ 8 : Nat) : Int) := Int.ofNat_le.2 h9
      rw [Int.natCast_pow] at this
      exact Int.le_trans this (by decide)
    · cases h
structure Rd where
  bs : List Int
  bad : Bool
def rdNum (most : Int) (r : Rd) : Int × Rd :=
  if r.bad then (0, r) else match parse r.bs with
  | some (n, neg, k) => if neg = false ∧ n ≤ most then (n, ⟨r.bs.drop k, false⟩) else (0, ⟨r.bs, true⟩)
  | none => (0, ⟨r.bs, true⟩)
def rdText (most : Int) (r : Rd) : List Int × Rd :=
  if r.bad then ([], r) else match parse r.bs with
  | some (n, neg, k) => if neg = false ∧ 0 ≤ most ∧ n ≤ most ∧ n ≤ ((r.bs.length : Int) - k) then (((r.bs.drop k).take n.toNat), ⟨r.bs.drop (k + n.toNat), false⟩) else ([], ⟨r.bs, true⟩)
  | none => ([], ⟨r.bs, true⟩)
def rdWhole (r : Rd) : Bool := !r.bad && decide (r.bs.length = 0)
end Go.VC
/- Package field: numbers and bytes as bytes. Condition: bounds on lengths. -/
namespace Go.Proofs.YtfgbbckfikiomaaGreatDoor
set_option linter.unusedVariables false
open Go Go.VC
variable {R : Cx} {Hs Rest : List HP} {w : World}
theorem _root_.Go.VC.SlR.mono {h h' : Heap} {s : Sl} {xs : List Value} (hs : ∀ b o, h b = some o → h' b = some o) (a : SlR h s xs) : SlR h' s xs :=
  ⟨a.len, a.cap, fun hx => let ⟨b, off, l, T, fr, ha, hb, hl⟩ := a.mem hx; ⟨b, off, l, T, fr, ha, hs _ _ hb, hl⟩⟩
abbrev amissP : List PanicEntry := [⟨.iface 246 (.agg #[]), false, false⟩]
theorem must_c {b : Bool} {Q : Ending → World → Prop} (h1 : b = true → Q (.returned (.tuple #[])) w) (h2 : b = false → Q (.panicked amissP) w) : Calls Tryz.prog 167 #[.bool b] w Q := by
  have h : GetsX Tryz.prog 167 #[.bool b] w (fun ch w' => b = false ∧ ch = amissP ∧ w' = w) (fun v w' => b = true ∧ v = .tuple #[] ∧ w' = w) := by
    apply call167
    refine Br.nb (fun h => ?_) (fun h => ?_)
    · exact ⟨h, rfl, rfl⟩
    · exact ⟨h, rfl, rfl⟩
  refine h.use ?_ ?_
  · rintro v w' ⟨hb, rfl, e⟩; rw [e]; exact h1 hb
  · rintro v w' ⟨hb, rfl, e⟩; rw [e]; exact h2 hb
abbrev lp (l : Nat) (s : Sl) : HP := pts l (.cells [.slice s.a s.len s.cap].toArray 42 (0, 0))
abbrev sdrop (s : Sl) (k : Nat) : Sl := ⟨cutA s.a k s.cap 1, s.len - k, s.cap - k⟩
theorem take_spec {l : Nat} {s : Sl} {xs : List Value} {k : Nat} (hr : SlR R.m s xs) (hw : Sat R (lp l s :: Hs) w) :
    GetsX Tryz.prog 168 #[.pointer (some ⟨l, 0, none⟩), .int .i64 k] w
      (fun ch w' => xs.length < k ∧ ch = amissP ∧ Sat R (lp l s :: Hs) w')
      (fun v w' => k ≤ xs.length ∧ v = .slice s.a k s.cap ∧ Sat R (lp l (sdrop s k) :: Hs) w') := by
  have hlen := hr.len
  have hcap := hr.cap
  apply call168
  refine NilP.mk rfl ⟨s, At.own (eqS hw) (by exact ⟨rfl, trivial⟩), must_c (fun h => .inl ⟨rfl, ?_⟩) (fun h => .inr ⟨_, rfl, ?_⟩)⟩
  · have h := of_decide_eq_true h
    refine NilP.mk rfl ⟨s, At.own (eqS hw) (by exact ⟨rfl, trivial⟩), by omega, by omega, NilP.mk rfl ⟨s, At.own (eqS hw) (by exact ⟨rfl, trivial⟩), by omega, by omega, NilP.mk rfl ?_⟩⟩
    rw [Int.toNat_natCast]
    refine store_rule hw (by kernel_rfl) rfl (by simp [Value.cells]) fun w hw => ?_
    exact ⟨by omega, rfl, hw⟩
  · have h := of_decide_eq_false h
    exact ⟨by omega, rfl, hw⟩
theorem andn32 : ∀ c : Fin 32, bitI .andNot .u8 ((c.1 : Nat) : Int) 16 = if 16 ≤ ((c.1 : Nat) : Int) then ((c.1 : Nat) : Int) - 16 else ((c.1 : Nat) : Int) := by decide +kernel
theorem andn {c : Int} (h0 : 0 ≤ c) (h1 : c < 32) : IntKind.i64.wrap (bitI .andNot .u8 c 16) = if 16 ≤ c then c - 16 else c := by
  obtain ⟨n, rfl⟩ := Int.eq_ofNat_of_zero_le h0
  have := andn32 ⟨n, by omega⟩
  simp only at this
  rw [this]
  split <;> exact wrap64 (by omega) (by omega)
theorem shl8_or {n t : Int} (h0 : 0 ≤ n) (h1 : n < 72057594037927936) (t0 : 0 ≤ t) (t1 : t < 256) : bitI .or .u64 (shlI .u64 n 8) (IntKind.u64.wrap t) = n * 256 + t := by
  have e : shlI .u64 n 8 = n * 256 := by
    show IntKind.u64.wrap (n * 2 ^ 8) = _
    rw [wrapU64 (by omega) (by omega)]; omega
  rw [e, wrapU64 t0 (by omega)]
  obtain ⟨a, rfl⟩ := Int.eq_ofNat_of_zero_le h0
  obtain ⟨b, rfl⟩ := Int.eq_ofNat_of_zero_le t0
  have := orU64 (x := a * 256) (y := b) (by omega) (by omega)
  rw [or_byte a b (by omega)] at this
  rw [show ((a * 256 : Nat) : Int) = (a : Int) * 256 from Int.natCast_mul a 256] at this
  rw [this]
  exact (Int.natCast_add (a * 256) b).trans (by rw [Int.natCast_mul]; rfl)
abbrev widN (c : Int) : Nat := (if 16 ≤ c then c - 16 else c).toNat
theorem fsize_spec {h : Heap} {l : Nat} {s : Sl} {bs : List Int} (hb : ∀ x ∈ bs, 0 ≤ x ∧ x < 256) (hsub : ∀ b o, h b = some o → R.m b = some o) (hr0 : SlR h s (b8 bs)) (hw : Sat R (lp l s :: Hs) w) :
    GetsX Tryz.prog 166 #[.pointer (some ⟨l, 0, none⟩)] w
      (fun ch w' => parse bs = none ∧ ch = amissP ∧ ∃ s', Sat R (lp l s' :: Hs) w')
      (fun v w' => ∃ n neg k s', parse bs = some (n, neg, k) ∧ v = .tuple #[.int .u64 n, .bool neg] ∧ SlR h s' (b8 (bs.drop k)) ∧ Sat R (lp l s' :: Hs) w') := by
  have hr : SlR R.m s (b8 bs) := hr0.mono hsub
  apply call166
  refine (take_spec (k := 1) hr hw).use ?_ ?_
  rotate_left
  · rintro _ w ⟨h, rfl, hw⟩
    refine .inr ⟨_, rfl, ?_, rfl, s, hw⟩
    cases bs with
    | nil => rfl
    | cons => simp at h
  rintro _ w ⟨hlen, rfl, hw⟩
  cases bs with
  | nil => simp at hlen
  | cons c rest =>
  have hc := hb c List.mem_cons_self
  have hbr : ∀ x ∈ rest, 0 ≤ x ∧ x < 256 := fun x hx => hb x (List.mem_cons_of_mem _ hx)
  refine .inl ⟨⟨s.a, 1, s.cap⟩, rfl, ?_⟩
  have hr1 : SlR R.m ⟨s.a, 1, s.cap⟩ (b8 [c]) := hr.take (k := 1) hlen
  have hrd : SlR R.m (sdrop s 1) (b8 rest) := hr.drop (k := 1) hlen
  have := SlR.idxK (Hs := lp l (sdrop s 1) :: Hs) (S := fun w' => w' = w) hr1 (eqS hw) (k := 0) (by simp) (F := fun t => t = c) rfl
  obtain ⟨h0, h1, this⟩ := this.out
  obtain ⟨a, ha, t, hat, rfl⟩ := this.out
  refine Rng.mk h0 h1 (NilP.mk ha ⟨t, hat, ?_⟩)
  have hsnone : ∀ {p : Prop}, ¬ p → True := fun _ => trivial
  refine ⟨fun w => (t < 32 ∧ widN t ≤ 8 ∧ (widN t = 0 → t = 0)) ∧ Sat R (lp l (sdrop s 1) :: Hs) w, ?_, ?_⟩
  · have bad : (t < 32 ∧ widN t ≤ 8 ∧ widN t ≤ rest.length ∧ (widN t = 0 → t = 0) ∧ (widN t ≠ 0 → rest.head? ≠ some 0) → False) → parse (t :: rest) = none := fun h => by
      unfold parse; simp only; rw [if_neg h]
    refine Br.d (fun h => ?_) (fun h => ?_)
    · rw [andn hc.1 h]
      refine Br.d (fun h2 => ?_) (fun h2 => ?_)
      · refine Br.d (fun h3 => ?_) (fun h3 => ?_)
        · exact must_c (fun _ => .inl ⟨rfl, ⟨h, by unfold widN; omega, fun h4 => by unfold widN at h4; omega⟩, hw⟩) (fun h => by cases h)
        · refine must_c (fun h4 => .inl ⟨rfl, ⟨h, by unfold widN; omega, fun h5 => ?_⟩, hw⟩) (fun h4 => .inr ⟨_, rfl, bad ?_, rfl, _, hw⟩)
          · simp only [ge_iff_le, Bool.not_eq_true', decide_eq_false_iff_not] at h4
            rw [if_neg h4] at h3; omega
          · simp only [ge_iff_le, Bool.not_eq_false', decide_eq_true_eq] at h4
            rintro ⟨_, _, _, h5, _⟩
            rw [if_pos h4] at h3
            have := h5 (by unfold widN; rw [if_pos h4]; omega)
            omega
      · exact must_c (fun h => by cases h) (fun _ => .inr ⟨_, rfl, bad (by rintro ⟨_, h3, _⟩; unfold widN at h3; omega), rfl, _, hw⟩)
    · exact must_c (fun h => by cases h) (fun _ => .inr ⟨_, rfl, bad (by rintro ⟨h3, _⟩; exact h h3), rfl, _, hw⟩)
  clear hat ha h0 h1
  rintro _ w ⟨⟨h32, h8, hz⟩, hw⟩
  rw [andn hc.1 h32]
  have hwid : (if 16 ≤ t then t - 16 else t) = ((widN t : Nat) : Int) := by
    unfold widN; rw [Int.toNat_of_nonneg]; split <;> omega
  rw [hwid]
  generalize hW : widN t = W at *
  refine (take_spec (k := W) hrd hw).use ?_ ?_
  rotate_left
  · rintro _ w ⟨h, rfl, hw⟩
    refine .inr ⟨_, rfl, ?_, rfl, _, hw⟩
    unfold parse; simp only; rw [if_neg]
    rintro ⟨_, _, h3, _⟩
    have : widN t ≤ rest.length := h3
    simp at h; omega
  rintro _ w ⟨hl, rfl, hw⟩
  have hl : W ≤ rest.length := by simpa using hl
  have hrt : SlR R.m ⟨(sdrop s 1).a, W, (sdrop s 1).cap⟩ (b8 (rest.take W)) := by have := hrd.take (k := W) (by simpa using hl); rwa [← List.map_take] at this
  have hlt : (rest.take W).length = W := by simp; omega
  refine .inl ⟨⟨(sdrop s 1).a, W, (sdrop s 1).cap⟩, rfl, ?_⟩
  refine ⟨fun n i w => ∃ k : Nat, i = k ∧ k ≤ W ∧ n = valI 0 (rest.take k) ∧ (k ≠ 0 → rest.head? ≠ some 0) ∧ Sat R (lp l (sdrop (sdrop s 1) W) :: Hs) w, fun _ i _ => W - i.toNat, ⟨0, rfl, Nat.zero_le _, rfl, fun h => absurd rfl h, hw⟩, ?_⟩
  rintro _ _ _ w ⟨k, rfl, hk, rfl, hh, hw⟩
  refine Br.d (fun h => ?_) (fun h => ?_)
  · have hk2 : k < W := by have : ((k : Nat) : Int) < (W : Int) := h; omega
    have hkr : k < rest.length := by omega
    have := SlR.idxK (Hs := lp l (sdrop (sdrop s 1) W) :: Hs) (S := fun w' => w' = w) hrt (eqS hw) (k := k) (by omega) (F := fun t => t = rest[k]) (by simp)
    obtain ⟨h0, h1, this⟩ := this.out
    obtain ⟨a, ha, x, hat, rfl⟩ := this.out
    refine Rng.mk h0 h1 (NilP.mk ha ⟨_, hat, ?_⟩)
    have hx := hbr rest[k] (List.getElem_mem _)
    have hvb : ∀ x ∈ rest.take k, 0 ≤ x ∧ x < 256 := fun x hx => hbr x (List.mem_of_mem_take hx)
    have hv0 := valI_nn (acc := 0) (Int.le_refl _) hvb
    have hv1 : valI 0 (rest.take k) < 72057594037927936 := by
      refine Int.lt_of_lt_of_le (valI_lt (Int.le_refl _) hvb) ?_
      rw [List.length_take, Nat.min_eq_left (by omega), Int.zero_add, Int.one_mul]
      have h9 : 256 ^ k ≤ 256 ^ 7 := Nat.pow_le_pow_right (by omega) (by omega)
      have : ((256 ^ k : Nat) : Int) ≤ ((256 ^ 7 : Nat) : Int) := Int.ofNat_le.2 h9
      rw [Int.natCast_pow] at this
      exact Int.le_trans this (by decide)
    have hstep : ∀ w, (rest.head? ≠ some 0) → Sat R (lp l (sdrop (sdrop s 1) W) :: Hs) w →
        (∃ k' : Nat, IntKind.i64.wrap ((k : Int) + 1) = k' ∧ k' ≤ W ∧ bitI .or .u64 (shlI .u64 (valI 0 (rest.take k)) 8) (IntKind.u64.wrap rest[k]) = valI 0 (rest.take k') ∧ (k' ≠ 0 → rest.head? ≠ some 0) ∧ Sat R (lp l (sdrop (sdrop s 1) W) :: Hs) w) ∧ W - (IntKind.i64.wrap ((k : Int) + 1)).toNat < W - (k : Int).toNat := fun w h1 hw => by
      rw [wrap64 (by omega) (by omega)]
      refine ⟨⟨k + 1, by omega, by omega, ?_, fun _ => h1, hw⟩, by omega⟩
      rw [shl8_or hv0 hv1 hx.1 hx.2, List.take_succ_eq_append_getElem hkr, valI_snoc]
    refine Br.d (fun h3 => ?_) (fun h3 => ?_)
    · exact must_c (fun _ => .inl ⟨rfl, hstep _ (hh (by omega)) hw⟩) (fun h => by cases h)
    · have hk0 : k = 0 := by omega
      subst hk0
      have hhead : rest.head? = some rest[0] := by rw [List.head?_eq_getElem?, List.getElem?_eq_getElem hkr]
      refine must_c (fun h4 => .inl ⟨rfl, hstep _ ?_ hw⟩) (fun h4 => .inr ⟨_, rfl, ?_, rfl, _, hw⟩)
      · have h4 := of_decide_eq_true h4
        rw [hhead]; intro h5; simp only [Option.some.injEq] at h5; omega
      · have h4 := of_decide_eq_false h4
        unfold parse; simp only; rw [if_neg]
        rintro ⟨_, _, _, _, h5⟩
        have h6 : widN t ≠ 0 := by omega
        refine h5 h6 ?_
        rw [hhead]; congr 1; omega
  · have hkW : k = W := by have : ¬ ((k : Nat) : Int) < (W : Int) := h; omega
    subst hkW
    refine ⟨valI 0 (rest.take k), decide (t ≥ 16), k + 1, sdrop (sdrop s 1) k, ?_, rfl, ?_, ?_⟩
    · unfold parse; simp only
      have e : (if 16 ≤ t then t - 16 else t).toNat = k := hW
      rw [e, if_pos ⟨h32, h8, hl, hz, hh⟩]
    · have := (hr0.drop (k := 1) hlen).drop (k := k) (by simpa using hl)
      simpa using this
    · exact hw
end Go.Proofs.YtfgbbckfikiomaaGreatDoor
/- Package field: Number; reading in general. Condition: none. -/
namespace Go.Proofs.YtfgbbckfikiomaaGreatDoor
set_option linter.unusedVariables false
open Go Go.VC
variable {R : Cx} {Hs Rest : List HP} {w : World}
theorem shr_nat (n k : Nat) (hk : k ≤ 64) : shrI .u64 (n : Int) (k : Int) = ((n / 2 ^ k : Nat) : Int) := by
  have e : min ((k : Int).toNat) IntKind.u64.bits = k := by rw [Int.toNat_natCast]; exact Nat.min_eq_left hk
  unfold shrI
  rw [e, Int.fdiv_eq_ediv_of_nonneg _ (by exact Int.le_of_lt (Int.pow_pos (by decide)))]
  rw [show ((2 : Int) ^ k) = ((2 ^ k : Nat) : Int) from (Int.natCast_pow 2 k).symm]
  exact (Int.natCast_ediv n (2 ^ k)).symm
theorem shr32 (n : Nat) : shrI .u64 (n : Int) 32 = ((n / 4294967296 : Nat) : Int) := shr_nat n 32 (by omega)
theorem shr16 (n : Nat) : shrI .u64 (n : Int) 16 = ((n / 65536 : Nat) : Int) := shr_nat n 16 (by omega)
theorem shr8 (n : Nat) : shrI .u64 (n : Int) 8 = ((n / 256 : Nat) : Int) := shr_nat n 8 (by omega)
theorem len64_spec {n : Nat} (hn : n < 18446744073709551616) (hw : Sat R Hs w) :
    Gets Tryz.prog 193 #[.int .u64 n] w fun v w' => v = .int .i64 (Lib.bitLen n : Nat) ∧ Sat R Hs w' := by
  apply call193
  refine ⟨fun x j w => ∃ m i : Nat, x = m ∧ j = i ∧ m < 4294967296 ∧ i ≤ 32 ∧ Lib.bitLen n = i + Lib.bitLen m ∧ Sat R Hs w, ?_, ?_⟩
  · refine Br.d (fun h => ?_) (fun h => ?_)
    · rw [shr32]
      exact ⟨n / 4294967296, 32, rfl, rfl, by omega, by omega, Lib.bitLen_shift32 n (by omega) hn, hw⟩
    · exact ⟨n, 0, rfl, rfl, by omega, by omega, by omega, hw⟩
  rintro _ _ _ w ⟨m, i, rfl, rfl, hm, hi, he, hw⟩
  refine ⟨fun x j w => ∃ m i : Nat, x = m ∧ j = i ∧ m < 65536 ∧ i ≤ 48 ∧ Lib.bitLen n = i + Lib.bitLen m ∧ Sat R Hs w, ?_, ?_⟩
  · refine Br.d (fun h => ?_) (fun h => ?_)
    · rw [shr16, wrap64 (by omega) (by omega)]
      exact ⟨m / 65536, i + 16, rfl, by omega, by omega, by omega, by have := Lib.bitLen_shift16 m (by omega) (by omega); omega, hw⟩
    · exact ⟨m, i, rfl, rfl, by omega, by omega, he, hw⟩
  clear hm hi he hw
  rintro _ _ _ w ⟨m, i, rfl, rfl, hm, hi, he, hw⟩
  refine Br.d (fun h => ?_) (fun h => ?_)
  · rw [shr8, wrapU8 (by omega) (by omega)]
    have h8 : Lib.bitLen (m / 256) ≤ 8 := Lib.bitLen_le8 ⟨m / 256, by omega⟩
    refine ⟨UInt8.ofNat (Lib.bitLen (m / 256)), by omega, ?_, ?_, hw⟩
    · rw [Int.toNat_natCast]
      obtain ⟨q, hq⟩ : ∃ q : Fin 256, q.1 = m / 256 := ⟨⟨m / 256, by omega⟩, rfl⟩
      rw [← hq]
      clear hq h8 hw he hi hm h
      revert q
      decide +kernel
    · have : (UInt8.ofNat (Lib.bitLen (m / 256))).toNat = Lib.bitLen (m / 256) := by simp; omega
      have h2 := Lib.bitLen_shift8 m (by omega) (by omega)
      rw [this, wrap64 (x := ((Lib.bitLen (m / 256) : Nat) : Int)) (by omega) (by omega), wrap64 (x := (i : Int) + 8) (by omega) (by omega), wrap64 (by omega) (by omega)]
      congr 1; omega
  · rw [wrapU8 (by omega) (by omega)]
    have h8 : Lib.bitLen m ≤ 8 := Lib.bitLen_le8 ⟨m, by omega⟩
    refine ⟨UInt8.ofNat (Lib.bitLen m), by omega, ?_, ?_, hw⟩
    · rw [Int.toNat_natCast]
      obtain ⟨q, hq⟩ : ∃ q : Fin 256, q.1 = m := ⟨⟨m, by omega⟩, rfl⟩
      rw [← hq]
      clear hq h8 hw he hi hm h
      revert q
      decide +kernel
    · have : (UInt8.ofNat (Lib.bitLen m)).toNat = Lib.bitLen m := by simp; omega
      rw [this, wrap64 (x := ((Lib.bitLen m : Nat) : Int)) (by omega) (by omega), wrap64 (by omega) (by omega)]
      congr 1; omega
theorem number_spec {n : Nat} (hn : n < 18446744073709551616) (hw : Sat R Hs w) :
    Gets Tryz.prog 120 #[.int .u64 n] w fun v w' => ∃ t : Sl, v = .slice t.a t.len t.cap ∧ Sat R (Own t 5 (b8 (numB n)) :: Hs) w' := by
  apply call120
  refine (len64_spec hn hw).use ?_
  rintro _ w ⟨rfl, hw⟩
  refine ⟨_, rfl, ?_⟩
  have hwid := dig_width n hn
  have h8 := dig_len8 hn
  generalize hL : (dig n).length = L at *
  have e : IntKind.i64.wrap ((IntKind.i64.wrap (((Lib.bitLen n : Nat) : Int) + 7)).tdiv 8) = (L : Int) := by
    rw [wrap64 (x := ((Lib.bitLen n : Nat) : Int) + 7) (by omega) (by omega), Int.tdiv_eq_ediv_of_nonneg (by omega), wrap64 (by omega) (by omega)]
    omega
  rw [e, wrapU8 (by omega) (by omega)]
  refine new_rule hw fun b w hw => ?_
  have h0 : Sat R (Own ⟨some ⟨b, 0, none⟩, 1, 1⟩ 5 (b8 [(L : Int)]) :: Hs) w := Own.of_pts (xs := b8 [(L : Int)]) (rest := []) hw
  refine ⟨fun wd out w => ∃ k : Nat, wd = k ∧ k ≤ L ∧ Sat R (Own out 5 (b8 ((L : Int) :: (dig n).take (L - k))) :: Hs) w, fun wd _ _ => wd.toNat, ⟨L, rfl, Nat.le_refl _, by simpa using h0⟩, ?_⟩
  clear hw h0
  rintro _ _ out w ⟨k, rfl, hk, hw⟩
  refine Br.d (fun h => ?_) (fun h => ?_)
  · have e1 : IntKind.i64.wrap ((k : Int) - 1) = ((k - 1 : Nat) : Int) := by rw [wrap64 (by omega) (by omega)]; omega
    have e2 : IntKind.i64.wrap (8 * ((k - 1 : Nat) : Int)) = ((8 * (k - 1) : Nat) : Int) := by rw [wrap64 (by omega) (by omega)]; omega
    rw [e1, e2, shr_nat n _ (by omega)]
    refine Ge0.mk (by omega) ?_
    have hd := dig_get (n := n) (k := k - 1) (by omega)
    have hlen : ((L : Int) :: (dig n).take (L - k)).length ≤ 9 := by simp; omega
    refine push_rule elB8 hw (one_b8 _) rfl (by rw [List.length_map]; omega) (by rw [List.length_map]; omega) fun t w hw => ⟨⟨k - 1, rfl, by omega, ?_⟩, by show ((k - 1 : Nat) : Int).toNat < (k : Int).toNat; omega⟩
    have e3 : ((L : Int) :: (dig n).take (L - (k - 1))) = ((L : Int) :: (dig n).take (L - k)) ++ [IntKind.u8.wrap ((n / 2 ^ (8 * (k - 1)) : Nat) : Int)] := by
      have e4 : L - (k - 1) = (L - k) + 1 := by omega
      rw [e4, List.take_succ_eq_append_getElem (by omega), List.cons_append]
      congr 3
      rw [wrapU8m, show (2 : Nat) ^ (8 * (k - 1)) = 256 ^ (k - 1) from by rw [Nat.pow_mul], show ((n / 256 ^ (k - 1) : Nat) : Int) % 256 = ((n / 256 ^ (k - 1) % 256 : Nat) : Int) from (Int.natCast_emod _ _).symm, ← hd]
      congr 1; omega
    rw [e3]
    simpa [b8] using hw
  · have hk0 : k = 0 := by omega
    subst hk0
    refine ⟨out, rfl, ?_⟩
    have : (dig n).take (L - 0) = dig n := List.take_of_length_le (by omega)
    rw [this] at hw
    unfold numB
    rw [hL]; exact hw
abbrev rdCells (s : Sl) (bad : Bool) : Obj := .cells [.slice s.a s.len s.cap, .bool bad].toArray 188 (0, 0)
def RdAt (r : Nat) (rd : Rd) : HP := exs fun s : Sl => Star [pts r (rdCells s rd.bad), Reads s (b8 rd.bs)]
theorem Sat.rd {r : Nat} {rd : Rd} : Sat R (RdAt r rd :: Hs) w ↔ ∃ s : Sl, Sat R (pts r (rdCells s rd.bad) :: Reads s (b8 rd.bs) :: Hs) w := by
  unfold RdAt
  rw [Sat.exs]
  exact ⟨fun ⟨s, h⟩ => ⟨s, Sat.star.1 h⟩, fun ⟨s, h⟩ => ⟨s, Sat.star.2 h⟩⟩
abbrev brCell (r : Nat) : Obj := .cells [.pointer (some ⟨r, 0, none⟩)].toArray 123 (0, 0)
theorem leaveP {br r : Nat} {s : Sl} {bad : Bool} {Kr : World → Prop} (hw : Sat R (pts br (brCell r) :: pts r (rdCells s bad) :: Hs) w) (k : ∀ w, Sat R (pts br (brCell r) :: pts r (rdCells s true) :: Hs) w → Kr w) :
    LeaveF Tryz.prog 219 [.pointer (some ⟨br, 0, none⟩)] (.panicking amissP) Kr w := by
  unfold LeaveF
  refine CallsD.mono (callP219 (some ⟨br, 0, none⟩) (.iface 246 (.agg #[])) Kr w ?_) ?_
  · refine ⟨true, fun w' _ => by kernel_rfl, Br.t rfl ?_⟩
    refine NilP.mk rfl ⟨some ⟨r, 0, none⟩, At.own (eqS hw) (by exact ⟨rfl, trivial⟩), NilP.mk rfl ?_⟩
    have hw := hw.swap
    refine store_rule hw (by kernel_rfl) rfl (by simp [Value.cells]) fun w hw => ?_
    exact k w hw.swap
  · rintro e v w' ⟨hy, rfl, hk⟩
    exact ⟨hy, rfl, hk⟩
theorem leaveR {br : Nat} {Kr : World → Prop} (k : Kr w) : LeaveF Tryz.prog 219 [.pointer (some ⟨br, 0, none⟩)] .returning Kr w := by
  unfold LeaveF
  refine CallsD.mono (callR219 (some ⟨br, 0, none⟩) Kr w ?_) ?_
  · exact ⟨false, fun w' _ => by kernel_rfl, Br.f rfl k⟩
  · rintro e v w' ⟨hy, rfl, hk⟩
    exact ⟨hy, rfl, hk⟩
theorem reading_spec {r : Nat} {rd : Rd} {one : Value} {α : Type} {f : α → List Int} {Hs1 : α → List HP} {Hs2 : List HP} {G : α → Prop} {N : Prop} (hw : Sat R (RdAt r rd :: Hs) w)
    (hone : rd.bad = false → ∀ (x : Heap) (l : Nat) (s : Sl) (A B : HP) (w : World), (∀ b o, x b = some o → (R.add x).m b = some o) → SlR x s (b8 rd.bs) → Sat (R.add x) (lp l s :: A :: B :: Hs) w →
      CalW Tryz.prog cl one [.pointer (some ⟨l, 0, none⟩)] w fun e w' =>
        (e = .returned (.tuple #[]) ∧ ∃ y s', G y ∧ SlR x s' (b8 (f y)) ∧ Sat (R.add x) (lp l s' :: A :: B :: Hs1 y) w') ∨
        (e = .panicked amissP ∧ N ∧ ∃ s', Sat (R.add x) (lp l s' :: A :: B :: Hs2) w')) :
    Gets Tryz.prog 164 #[.pointer (some ⟨r, 0, none⟩), one] w fun v w' => v = .tuple #[] ∧
      ((rd.bad = true ∧ Sat R (RdAt r rd :: Hs) w') ∨ (rd.bad = false ∧ ∃ y, G y ∧ Sat R (RdAt r ⟨f y, false⟩ :: Hs1 y) w') ∨ (rd.bad = false ∧ N ∧ Sat R (RdAt r ⟨rd.bs, true⟩ :: Hs2) w')) := by
  obtain ⟨s, hw⟩ := Sat.rd.1 hw
  apply call164
  refine new_rule hw fun br w hw => ?_
  refine ⟨_, At.own (eqS hw) (by exact ⟨rfl, trivial⟩), NilP.mk rfl ?_⟩
  refine ⟨_, At.own (eqS hw) (by exact ⟨rfl, trivial⟩), must_c (fun h => .inl ⟨rfl, ?_⟩) (fun h => .inr ⟨_, rfl, ?_⟩)⟩
  · have hbad : rd.bad = false := by simpa using h
    refine ⟨_, At.own (eqS hw) (by exact ⟨rfl, trivial⟩), NilP.mk rfl ?_⟩
    refine ⟨_, At.own (eqS hw) (by exact ⟨rfl, trivial⟩), ?_⟩
    refine new_rule hw fun l w hw => ?_
    have hw : Sat R (pts l (.cells [.slice none 0 0].toArray 42 (0, 0)) :: pts br (brCell r) :: pts r (rdCells s rd.bad) :: Reads s (b8 rd.bs) :: Hs) w := hw
    refine store_rule hw (by kernel_rfl) rfl (by simp [Value.cells]) fun w hw => ?_
    have hw : Sat R (lp l s :: pts br (brCell r) :: pts r (rdCells s rd.bad) :: Reads s (b8 rd.bs) :: Hs) w := hw
    have hw : Sat R (Reads s (b8 rd.bs) :: lp l s :: pts br (brCell r) :: pts r (rdCells s rd.bad) :: Hs) w := hw.arr
    obtain ⟨x, hd, _, hx, hs⟩ := Reads.lend hw
    have hsub : ∀ b o, x b = some o → (R.add x).m b = some o := fun b o hb => by
      have := hd b (by rw [hb]; simp)
      simp only [Cx.add, Heap.add, this, hb]
    refine CalW.mono (hone hbad x l s _ _ w hsub hs hx) ?_
    rintro e w' (⟨rfl, bs', s', hg, hs', hw⟩ | ⟨rfl, hn, s', hw⟩)
    · refine .inl ⟨rfl, ?_⟩
      have hw : Sat (R.add x) (pts br (brCell r) :: pts r (rdCells s rd.bad) :: lp l s' :: Hs1 bs') w' := hw.arr
      refine ⟨_, At.own (eqS hw) (by exact ⟨rfl, trivial⟩), ?_⟩
      refine ⟨_, At.own (eqS hw) (by exact ⟨rfl, trivial⟩), NilP.mk rfl ?_⟩
      have hw : Sat (R.add x) (pts r (rdCells s rd.bad) :: lp l s' :: pts br (brCell r) :: Hs1 bs') w' := hw.arr
      refine store_rule hw (by kernel_rfl) rfl (by simp [Value.cells]) fun w hw => ?_
      refine leaveR ⟨rfl, .inr (.inl ⟨hbad, bs', hg, ?_⟩)⟩
      have hw : Sat (R.add x) (pts r (rdCells s' rd.bad) :: lp l s' :: pts br (brCell r) :: Hs1 bs') w := hw
      rw [hbad] at hw
      have hw : Sat (R.add x) (pts r (rdCells s' false) :: Hs1 bs') w := hw.cons fun _ h => h.drop.drop
      refine Sat.rd.2 ⟨s', ?_⟩
      exact (Reads.back hd hs' hw).swap
    · refine .inr ⟨_, rfl, ?_⟩
      have hw : Sat (R.add x) (pts br (brCell r) :: pts r (rdCells s rd.bad) :: lp l s' :: Hs2) w' := hw.arr
      refine leaveP hw fun w hw => ⟨rfl, .inr (.inr ⟨hbad, hn, ?_⟩)⟩
      have hw : Sat (R.add x) (pts r (rdCells s true) :: Hs2) w := hw.drop.cons fun _ h => h.drop
      refine Sat.rd.2 ⟨s, ?_⟩
      exact (Reads.back hd hs hw).swap
  · have hbad : rd.bad = true := by simpa using h
    have hw : Sat R (pts br (brCell r) :: pts r (rdCells s rd.bad) :: Reads s (b8 rd.bs) :: Hs) w := hw
    refine leaveP hw fun w hw => ⟨rfl, .inl ⟨hbad, ?_⟩⟩
    rw [← hbad] at hw
    exact Sat.rd.2 ⟨s, hw.drop⟩
end Go.Proofs.YtfgbbckfikiomaaGreatDoor
/- Package field: a reader's New, Number, Whole. Condition: bounds on lengths. -/
namespace Go.Proofs.YtfgbbckfikiomaaGreatDoor
set_option linter.unusedVariables false
open Go Go.VC
variable {R : Cx} {Hs Rest : List HP} {w : World}
theorem CalW.mk {g : FuncId} {captured : Array Value} {args : List Value} {Q : Ending → World → Prop} (hc : cl g = true) (h : Calls Tryz.prog g (args ++ captured.toList).toArray w Q) : CalW Tryz.prog cl (.func (.func g) #[] captured) args w Q := by
  unfold CalW
  simp only [hc]
  exact h
theorem fnew_spec {s : Sl} {bs : List Int} (hs : Ro R s (b8 bs)) (hl : bs.length ≤ 1099511627776) (hw : Sat R Hs w) :
    Gets Tryz.prog 76 #[.slice s.a s.len s.cap] w fun v w' => ∃ r, v = .pointer (some ⟨r, 0, none⟩) ∧ Sat R (RdAt r ⟨bs, false⟩ :: Hs) w' := by
  apply call76
  refine (clone_spec hs hl hw).use ?_
  rintro _ w ⟨t, rfl, hw⟩
  refine ⟨t, rfl, ?_⟩
  have hw := Own.reads hw
  refine new_rule hw fun r w hw => ⟨r, rfl, Sat.rd.2 ⟨t, hw⟩⟩
theorem whole_spec {r : Nat} {rd : Rd} (hw : Sat R (RdAt r rd :: Hs) w) :
    Gets Tryz.prog 83 #[.pointer (some ⟨r, 0, none⟩)] w fun v w' => v = .bool (rdWhole rd) ∧ Sat R (RdAt r rd :: Hs) w' := by
  obtain ⟨s, hw⟩ := Sat.rd.1 hw
  have hsl : s.len = rd.bs.length := by
    obtain ⟨x, _, _, _, hx⟩ := Reads.lend hw.swap
    have := hx.len; simpa using this
  apply call83
  refine NilP.mk rfl ⟨rd.bad, At.own (eqS hw) (by exact ⟨rfl, trivial⟩), Br.nb (fun h => ?_) (fun h => ?_)⟩
  · refine NilP.mk rfl ?_
    refine ⟨s, At.own (eqS hw) (by exact ⟨rfl, trivial⟩), ?_, Sat.rd.2 ⟨s, hw⟩⟩
    unfold rdWhole
    rw [h, hsl]
    congr 1
    simp only [Bool.not_false, Bool.true_and]
    cases rd.bs with
    | nil => rfl
    | cons => simp; omega
  · refine ⟨?_, Sat.rd.2 ⟨s, hw⟩⟩
    unfold rdWhole
    rw [h]; rfl
theorem num1_spec {h : Heap} {l bm bo : Nat} {s : Sl} {bs : List Int} {most : Int} (hb : ∀ x ∈ bs, 0 ≤ x ∧ x < 256) (hsub : ∀ b o, h b = some o → R.m b = some o) (hr : SlR h s (b8 bs))
    (hw : Sat R (lp l s :: pts bo (.cells [.int .u64 0].toArray 134 (0, 0)) :: pts bm (.cells [.int .u64 most].toArray 134 (0, 0)) :: Hs) w) :
    GetsX Tryz.prog 213 #[.pointer (some ⟨l, 0, none⟩), .pointer (some ⟨bm, 0, none⟩), .pointer (some ⟨bo, 0, none⟩)] w
      (fun ch w' => ch = amissP ∧ (∀ n k, parse bs = some (n, false, k) → ¬ n ≤ most) ∧ ∃ s', Sat R (lp l s' :: pts bo (.cells [.int .u64 0].toArray 134 (0, 0)) :: pts bm (.cells [.int .u64 most].toArray 134 (0, 0)) :: Hs) w')
      (fun v w' => v = .tuple #[] ∧ ∃ n k s', parse bs = some (n, false, k) ∧ n ≤ most ∧ SlR h s' (b8 (bs.drop k)) ∧
        Sat R (lp l s' :: pts bo (.cells [.int .u64 n].toArray 134 (0, 0)) :: pts bm (.cells [.int .u64 most].toArray 134 (0, 0)) :: Hs) w') := by
  apply call213
  refine (fsize_spec hb hsub hr hw).use ?_ ?_
  rotate_left
  · rintro _ w ⟨hp, rfl, s', hw⟩
    refine .inr ⟨_, rfl, rfl, ?_, s', hw⟩
    intro n k h; rw [hp] at h; cases h
  rintro _ w ⟨n, neg, k, s', hp, rfl, hs', hw⟩
  refine .inl ⟨n, neg, rfl, Br.nb (fun h => ?_) (fun h => ?_)⟩
  · subst h
    have hw2 : Sat R (pts bm (.cells [.int .u64 most].toArray 134 (0, 0)) :: lp l s' :: pts bo (.cells [.int .u64 0].toArray 134 (0, 0)) :: Hs) w := hw.arr
    refine NilP.mk rfl ?_
    refine ⟨most, At.own (eqS hw) (by exact ⟨rfl, trivial⟩), must_c (fun h => .inl ⟨rfl, ?_⟩) (fun h => .inr ⟨_, rfl, rfl, ?_, s', hw⟩)⟩
    · have h := of_decide_eq_true h
      have hw : Sat R (pts bo (.cells [.int .u64 0].toArray 134 (0, 0)) :: lp l s' :: pts bm (.cells [.int .u64 most].toArray 134 (0, 0)) :: Hs) w := hw.swap
      refine store_rule hw (by kernel_rfl) rfl (by simp [Value.cells]) fun w hw => ?_
      exact ⟨rfl, n, k, s', hp, h, hs', hw.swap⟩
    · have h := of_decide_eq_false h
      intro n' k' hp'
      rw [hp] at hp'
      simp only [Option.some.injEq, Prod.mk.injEq, true_and] at hp'
      rw [← hp'.1]; exact h
  · subst h
    refine must_c (fun h => by cases h) (fun _ => .inr ⟨_, rfl, rfl, ?_, s', hw⟩)
    intro n' k' hp'
    rw [hp] at hp'
    simp at hp'
theorem rnum_spec {r : Nat} {rd : Rd} {most : Int} (hb : ∀ x ∈ rd.bs, 0 ≤ x ∧ x < 256) (hw : Sat R (RdAt r rd :: Hs) w) :
    Gets Tryz.prog 147 #[.pointer (some ⟨r, 0, none⟩), .int .u64 most] w fun v w' => v = .int .u64 (rdNum most rd).1 ∧ Sat R (RdAt r (rdNum most rd).2 :: Hs) w' := by
  apply call147
  refine new_rule hw fun bm w hw => new_rule hw fun bo w hw => ?_
  have hw : Sat R (pts bo (.cells [.int .u64 0].toArray 134 (0, 0)) :: pts bm (.cells [.int .u64 most].toArray 134 (0, 0)) :: RdAt r rd :: Hs) w := hw
  refine store_rule hw (by kernel_rfl) rfl (by simp [Value.cells]) fun w hw => ?_
  have hw := hw.re (pts bo (.cells [.int .u64 0].toArray 134 (0, 0)))
  have hw : Sat R (RdAt r rd :: pts bo (.cells [.int .u64 0].toArray 134 (0, 0)) :: pts bm (.cells [.int .u64 most].toArray 134 (0, 0)) :: Hs) w := hw.arr
  refine (reading_spec (α := Int × Nat) (f := fun y => rd.bs.drop y.2) (G := fun y => parse rd.bs = some (y.1, false, y.2) ∧ y.1 ≤ most) (N := ∀ n k, parse rd.bs = some (n, false, k) → ¬ n ≤ most)
    (Hs1 := fun y => pts bo (.cells [.int .u64 y.1].toArray 134 (0, 0)) :: pts bm (.cells [.int .u64 most].toArray 134 (0, 0)) :: Hs)
    (Hs2 := pts bo (.cells [.int .u64 0].toArray 134 (0, 0)) :: pts bm (.cells [.int .u64 most].toArray 134 (0, 0)) :: Hs) hw ?_).use ?_
  · intro _ x l s A B w hsub hs hw
    refine CalW.mk (by kernel_rfl) ?_
    have hw2 : Sat (R.add x) (lp l s :: pts bo (.cells [.int .u64 0].toArray 134 (0, 0)) :: pts bm (.cells [.int .u64 most].toArray 134 (0, 0)) :: A :: B :: Hs) w := hw.arr
    refine (num1_spec (h := x) hb hsub hs hw2).use ?_ ?_
    · rintro _ w ⟨rfl, n, k, s', hp, hn, hs', hw⟩
      exact .inl ⟨rfl, (n, k), s', ⟨hp, hn⟩, hs', hw.arr⟩
    · rintro _ w ⟨rfl, hn, s', hw⟩
      exact .inr ⟨rfl, hn, s', hw.arr⟩
  · rintro _ w ⟨rfl, h⟩
    refine ⟨rfl, ?_⟩
    rcases h with ⟨hbad, hw⟩ | ⟨hbad, ⟨n, k⟩, ⟨hp, hn⟩, hw⟩ | ⟨hbad, hno, hw⟩
    · have hw : Sat R (pts bo (.cells [.int .u64 0].toArray 134 (0, 0)) :: RdAt r rd :: pts bm (.cells [.int .u64 most].toArray 134 (0, 0)) :: Hs) w := hw.swap
      refine ⟨0, At.own (eqS hw) (by exact ⟨rfl, trivial⟩), ?_⟩
      unfold rdNum
      rw [if_pos hbad]
      exact ⟨rfl, hw.drop.cons fun _ h => h.drop⟩
    · have hw : Sat R (pts bo (.cells [.int .u64 n].toArray 134 (0, 0)) :: RdAt r ⟨rd.bs.drop k, false⟩ :: pts bm (.cells [.int .u64 most].toArray 134 (0, 0)) :: Hs) w := hw.swap
      refine ⟨n, At.own (eqS hw) (by exact ⟨rfl, trivial⟩), ?_⟩
      unfold rdNum
      rw [if_neg (by rw [hbad]; simp), hp]
      simp only
      rw [if_pos (by simpa using hn)]
      exact ⟨rfl, hw.drop.cons fun _ h => h.drop⟩
    · have hw : Sat R (pts bo (.cells [.int .u64 0].toArray 134 (0, 0)) :: RdAt r ⟨rd.bs, true⟩ :: pts bm (.cells [.int .u64 most].toArray 134 (0, 0)) :: Hs) w := hw.swap
      refine ⟨0, At.own (eqS hw) (by exact ⟨rfl, trivial⟩), ?_⟩
      have e : rdNum most rd = (0, ⟨rd.bs, true⟩) := by
        unfold rdNum
        rw [if_neg (by rw [hbad]; simp)]
        cases hp : parse rd.bs with
        | none => rfl
        | some p =>
          obtain ⟨n, neg, k⟩ := p
          simp only
          rw [if_neg]
          rintro ⟨rfl, h⟩
          exact hno n k hp h
      rw [e]
      exact ⟨rfl, hw.drop.cons fun _ h => h.drop⟩
theorem rdNum_bd {most : Int} {rd : Rd} (hb : ∀ x ∈ rd.bs, 0 ≤ x ∧ x < 256) : ∀ x ∈ (rdNum most rd).2.bs, 0 ≤ x ∧ x < 256 := by
  unfold rdNum
  split
  · exact hb
  · split
    · split
      · exact fun x hx => hb x (List.mem_of_mem_drop hx)
      · exact hb
    · exact hb
theorem rdNum_val {most : Int} {rd : Rd} (hb : ∀ x ∈ rd.bs, 0 ≤ x ∧ x < 256) (hm : 0 ≤ most) : 0 ≤ (rdNum most rd).1 ∧ (rdNum most rd).1 ≤ most := by
  unfold rdNum
  split
  · exact ⟨Int.le_refl _, hm⟩
  · split
    · rename_i n neg k hp
      split
      · rename_i h; exact ⟨(parse_bd hb hp).1, h.2⟩
      · exact ⟨Int.le_refl _, hm⟩
    · exact ⟨Int.le_refl _, hm⟩
end Go.Proofs.YtfgbbckfikiomaaGreatDoor

/- SL, part 13: appends of integers; new arrays as slices of one's own. Condition: bounds on lengths. -/
namespace Go.VC
set_option linter.unusedVariables false
variable {P : Program} {R : Cx} {Hs Rest : List HP} {w : World} {s t : Sl} {T T2 : TypeId}
theorem oneAll_k (k : IntKind) (xs : List Int) : oneAll (xs.map (Value.int k)) = true := by
  induction xs with
  | nil => rfl
  | cons x xs ih => simp only [List.map_cons, oneAll, List.all_cons, Bool.and_eq_true]; exact ⟨rfl, ih⟩
theorem own_lit {b n : Nat} {l : List Value} {fr : Nat × Nat} (hw : Sat R (pts b (.cells l.toArray T fr) :: Hs) w) (hn : n = l.length := by rfl) (hf : okFr l.length fr := by first | assumption | exact Or.inl rfl) : Sat R (Own ⟨some ⟨b, 0, none⟩, n, n⟩ T l :: Hs) w := by
  subst hn
  have := Own.of_pts (xs := l) (rest := []) (by simpa using hw) (by simpa using hf)
  simpa using this
theorem appendRI {t1 t2 ty e' : TypeId} {bytes n : Nat} {k : IntKind} (E : El P t1 t2 T bytes) {xs ys : List Int} {K : Sl → World → Prop} (h2 : P.underlying t2 = some (.slice e'))
    (hw : Sat R (Own s T (xs.map (Value.int k)) :: Hs) w) (hy : Ro R t (ys.map (Value.int k))) (hn : xs.length + ys.length ≤ n) (hb : 2 * n * bytes ≤ 281474976710656) (hb' : n ≤ 9223372036854775807)
    (kk : ∀ s' w', Sat R (Own s' T ((xs ++ ys).map (Value.int k)) :: Hs) w' → K s' w') :
    ∃ w', ∃ t' : Sl, (Builtin.append_ #[t1, t2] ty #[.slice s.a s.len s.cap, .slice t.a t.len t.cap]).run P w = .ok (.slice t'.a t'.len t'.cap) w' ∧ K t' w' := by
  have hsrc : Src P 1 t2 (.slice t.a t.len t.cap) ys.length (ys.map (Value.int k)) w := by
    have := srcRo h2 hw hy (oneAll_k _ _)
    simpa using this
  refine append_rule E (s := s) hw hsrc (oneAll_k _ _) ?_ (by rw [List.length_map]; omega) fun s2 w hw => kk s2 w (by simpa using hw)
  rw [List.length_map]
  have : 2 * (xs.length + ys.length) * bytes ≤ 2 * n * bytes := Nat.mul_le_mul_right _ (by omega)
  omega
theorem appendOO {t1 t2 ty e' : TypeId} {bytes n : Nat} {k : IntKind} (E : El P t1 t2 T bytes) {xs ys : List Int} {K : Sl → World → Prop} (h2 : P.underlying t2 = some (.slice e'))
    (hw : Sat R (Own s T (xs.map (Value.int k)) :: Own t T2 (ys.map (Value.int k)) :: Hs) w) (hn : xs.length + ys.length ≤ n) (hb : 2 * n * bytes ≤ 281474976710656) (hb' : n ≤ 9223372036854775807)
    (kk : ∀ s' w', Sat R (Own s' T ((xs ++ ys).map (Value.int k)) :: Own t T2 (ys.map (Value.int k)) :: Hs) w' → K s' w') :
    ∃ w', ∃ t' : Sl, (Builtin.append_ #[t1, t2] ty #[.slice s.a s.len s.cap, .slice t.a t.len t.cap]).run P w = .ok (.slice t'.a t'.len t'.cap) w' ∧ K t' w' := by
  obtain ⟨R', hr, _, hw, back⟩ := Own.lend hw.swap (by rw [List.length_map]; omega)
  exact appendRI E h2 hw hr hn hb hb' fun s' w' hw => kk s' w' (back hw).swap
theorem Ro.ix {k : IntKind} {xs : List Int} {S : World → Prop} {i : Int} (hr : Ro R s (xs.map (Value.int k))) (hS : ∀ w, S w → Sat R Hs w) (j : Nat) (hi : i = j) (hj : j < xs.length) {F : Int → Prop} (h : F xs[j]) :
    Rng i s.len (NilP s.a fun a => ∃ t : Int, (At S (a.add i.toNat) [.int k t]) ∧ F t) := by
  subst hi
  exact hr.idxK hS hj h
theorem SlR.ix {k : IntKind} {xs : List Int} {S : World → Prop} {i : Int} (hr : SlR R.m s (xs.map (Value.int k))) (hS : ∀ w, S w → Sat R Hs w) (j : Nat) (hi : i = j) (hj : j < xs.length) {F : Int → Prop} (h : F xs[j]) :
    Rng i s.len (NilP s.a fun a => ∃ t : Int, (At S (a.add i.toNat) [.int k t]) ∧ F t) := by
  subst hi
  exact hr.idxK hS hj h
end Go.VC
/- SL, part 14: memory of one's own, made into memory that is only read, for good. No condition. -/
namespace Go.VC
set_option linter.unusedVariables false
variable {P : Program} {R R' R'' : Cx} {Hs Rest : List HP} {w : World} {s : Sl} {T : TypeId}
structure Cx.Ext (R R' : Cx) : Prop where
  m : ∀ b o, R.m b = some o → R'.m b = some o
  like : R'.like R
theorem Cx.Ext.refl : R.Ext R := ⟨fun _ _ h => h, rfl, rfl, rfl⟩
theorem Cx.Ext.trans (h : R.Ext R') (h' : R'.Ext R'') : R.Ext R'' :=
  ⟨fun b o hb => h'.m b o (h.m b o hb), h.like.1.trans h'.like.1, h.like.2.1.trans h'.like.2.1, h.like.2.2.trans h'.like.2.2⟩
theorem Cx.Ext.add {h : Heap} : R.Ext (R.add h) := ⟨fun b o hb => by simp only [Cx.add, Heap.add, hb], rfl, rfl, rfl⟩
theorem Cx.Ext.back (h : R.Ext R') (hw : Sat R' Hs w) : Sat R Hs w := Sat.ro_of h.m h.like hw
theorem Cx.Ext.ro {xs : List Value} (h : R.Ext R') (a : Ro R s xs) : Ro R' s xs :=
  ⟨a.len, a.bound, fun hx => let ⟨b, off, l, T, fr, h1, h2, h3⟩ := a.mem hx; ⟨b, off, l, T, fr, h1, h.m _ _ h2, h3⟩⟩
theorem Cx.Ext.roN {n : Nat} {xs : List (List Value)} (h : R.Ext R') (a : RoN n R s xs) : RoN n R' s xs :=
  ⟨a.wid, a.len, fun hx => let ⟨b, off, l, T, fr, h1, h2, h3⟩ := a.mem hx; ⟨b, off, l, T, fr, h1, h.m _ _ h2, h3⟩⟩
theorem Cx.Ext.slR {xs : List Value} (h : R.Ext R') (a : SlR R.m s xs) : SlR R'.m s xs :=
  ⟨a.len, a.cap, fun hx => let ⟨b, off, l, T, fr, h1, h2, h3⟩ := a.mem hx; ⟨b, off, l, T, fr, h1, h.m _ _ h2, h3⟩⟩
theorem Reads.leak {xs : List Value} (h : Sat R (Reads s xs :: Hs) w) : ∃ R' : Cx, R.Ext R' ∧ SlR R'.m s xs ∧ Sat R' Hs w := by
  obtain ⟨x, _, h1, h2, _⟩ := Reads.lend h
  exact ⟨_, .add, h1, h2⟩
theorem Own.leak {xs : List Value} (h : Sat R (Own s T xs :: Hs) w) : ∃ R' : Cx, R.Ext R' ∧ SlR R'.m s xs ∧ Sat R' Hs w := Reads.leak (Own.reads h)
theorem OwnN.leak {n : Nat} {rows : List (List Value)} (h : Sat R (OwnN n s T rows :: Hs) w) : ∃ R' : Cx, R.Ext R' ∧ RoN n R' s rows ∧ Sat R' Hs w := by
  obtain ⟨R', h1, ⟨x, rfl⟩, h2, _⟩ := OwnN.lend h
  exact ⟨_, .add, h1, h2⟩
theorem pts.leak {b : Nat} {o : Obj} (h : Sat R (pts b o :: Hs) w) : ∃ R' : Cx, R.Ext R' ∧ R'.m b = some o ∧ Sat R' Hs w := by
  obtain ⟨h1, h2⟩ := Sat.lend.1 h
  exact ⟨_, .add, Cx.lent h1, h2⟩
end Go.VC
/- The formulas of functions of this seat's translation, printed by a program of mine off the translation; each is proved equal to 'fnF' of the function's body, so it is enough for the call. No condition. -/
namespace Go.Proofs.YtfgbbckfikiomaaGreatDoor
open Go Go.VC
set_option linter.unusedVariables false
def B172 (s0 : Sl) (K : Value → World → Prop) (w : World) : Prop :=
  Br s0.a.isNone
   (K (.slice none 0 0) w)
   (New (.cells #[] 3 (0, 0)) (fun b_t5 w_1 =>
    ∃ w_2 : World, ∃ t7 : Sl, ((Builtin.append_ #[28, 28] 28 #[.slice ((some ⟨b_t5, 0, none⟩)) 0 0, .slice s0.a s0.len s0.cap]).run Tryz.prog w_1 = .ok (.slice t7.a t7.len t7.cap) w_2) ∧
    K (.slice t7.a t7.len t7.cap) w_2) w)
def sk172 : Sk := .leaf
theorem ok172 : fnOk Tryz.prog Tryz.f172.ntmps Tryz.f172 sk172 = true := by kernel_rfl
theorem eq172 (s0 : Sl) (K : Value → World → Prop) (w : World) : fnF Tryz.prog cl Tryz.f172 sk172 [.slice s0.a s0.len s0.cap] K w = B172 s0 K w := by kernel_rfl
theorem call172 (s0 : Sl) (K : Value → World → Prop) (w : World) (h : B172 s0 K w) : Gets Tryz.prog 172 #[.slice s0.a s0.len s0.cap] w K :=
  calls_of (sk := sk172) cl_ok mixed Tryz.func172 ok172 (args := [.slice s0.a s0.len s0.cap]) (Nat.le_of_ble_eq_true (by kernel_rfl)) (by rw [eq172]; exact h)
def B216 (s0 : Sl) (f1 : Value) (K : Value → World → Prop) (w : World) : Prop :=
  Calls Tryz.prog 257 #[.slice s0.a s0.len s0.cap, f1] w fun e w_1 =>
  ∃ t7 : Int, (e = .returned (.int .i64 t7)) ∧
  K (.bool (decide (t7 ≥ 0))) w_1
def sk216 : Sk := .leaf
theorem ok216 : fnOk Tryz.prog Tryz.f216.ntmps Tryz.f216 sk216 = true := by kernel_rfl
theorem eq216 (s0 : Sl) (f1 : Value) (K : Value → World → Prop) (w : World) : fnF Tryz.prog cl Tryz.f216 sk216 [.slice s0.a s0.len s0.cap, f1] K w = B216 s0 f1 K w := by kernel_rfl
theorem call216 (s0 : Sl) (f1 : Value) (K : Value → World → Prop) (w : World) (h : B216 s0 f1 K w) : Gets Tryz.prog 216 #[.slice s0.a s0.len s0.cap, f1] w K :=
  calls_of (sk := sk216) cl_ok mixed Tryz.func216 ok216 (args := [.slice s0.a s0.len s0.cap, f1]) (Nat.le_of_ble_eq_true (by kernel_rfl)) (by rw [eq216]; exact h)
def B257 (s0 : Sl) (f1 : Value) (K : Value → World → Prop) (w : World) : Prop :=
  ∃ (I : Int → World → Prop) (μ : Int → World → Nat), (I 0 w) ∧ ∀ (z : Env) (t8 : Int) (w_1 : World), I t8 w_1 →
  Br (decide (t8 < (↑s0.len : Int)))
   (Rng t8 s0.len (NilP s0.a fun a_t14 =>
    ∃ t15 : Int, (At (fun w' => w' = w_1) (Addr.add a_t14 t8.toNat) [.int .i64 t15]) ∧
    CalW Tryz.prog cl f1 [.int .i64 t15] w_1 fun e w_2 =>
    ∃ t16 : Bool, (e = .returned (.bool t16)) ∧
    Br t16
     (K (.int .i64 t8) w_2)
     ((I (IntKind.i64.wrap (t8 + 1)) w_2) ∧ μ (IntKind.i64.wrap (t8 + 1)) w_2 < μ t8 w_1)))
   (K (.int .i64 ((-1))) w_1)
def sk257 : Sk := (.seq .leaf (.seq (.seq .leaf (.block (.loop [8] [(.int .i64)] [4, 5, 8, 9, 10, 11, 12, 13, 14, 15, 16, 17, 18] .leaf))) .leaf))
theorem ok257 : fnOk Tryz.prog Tryz.f257.ntmps Tryz.f257 sk257 = true := by kernel_rfl
theorem eq257 (s0 : Sl) (f1 : Value) (K : Value → World → Prop) (w : World) : fnF Tryz.prog cl Tryz.f257 sk257 [.slice s0.a s0.len s0.cap, f1] K w = B257 s0 f1 K w := by kernel_rfl
theorem call257 (s0 : Sl) (f1 : Value) (K : Value → World → Prop) (w : World) (h : B257 s0 f1 K w) : Gets Tryz.prog 257 #[.slice s0.a s0.len s0.cap, f1] w K :=
  calls_of (sk := sk257) cl_ok mixed Tryz.func257 ok257 (args := [.slice s0.a s0.len s0.cap, f1]) (Nat.le_of_ble_eq_true (by kernel_rfl)) (by rw [eq257]; exact h)
def B160 (l0_0 : Int) (l0_1 : Sl) (K : Value → World → Prop) (w : World) : Prop :=
  New (.cells #[.int .i64 l0_0, .slice l0_1.a l0_1.len l0_1.cap] 35 (0, 0)) (fun b_l1 w_1 =>
  ∃ t5 : Int, (At (fun w' => w' = w_1) ⟨b_l1, 0, none⟩ [.int .i64 t5]) ∧
  Br (decide (t5 < 1))
   (K (.bool false) w_1)
   (∃ t9 : Int, (At (fun w' => w' = w_1) ⟨b_l1, 0, none⟩ [.int .i64 t9]) ∧
    Br (decide (t9 > 60))
     (K (.bool false) w_1)
     (∃ t14 : Sl, (At (fun w' => w' = w_1) ⟨b_l1, 0 + 1, none⟩ [.slice t14.a t14.len t14.cap]) ∧
      Br (decide ((↑t14.len : Int) < 1))
       (K (.bool false) w_1)
       (∃ t20 : Sl, (At (fun w' => w' = w_1) ⟨b_l1, 0 + 1, none⟩ [.slice t20.a t20.len t20.cap]) ∧
        Br (decide ((↑t20.len : Int) > 4))
         (K (.bool false) w_1)
         (∃ t26 : Sl, (At (fun w' => w' = w_1) ⟨b_l1, 0 + 1, none⟩ [.slice t26.a t26.len t26.cap]) ∧
          Calls Tryz.prog 216 #[.slice t26.a t26.len t26.cap, .func (.func 215) #[] #[]] w_1 fun e w_2 =>
          ∃ t28 : Bool, (e = .returned (.bool t28)) ∧
          Br t28
           (K (.bool false) w_2)
           (∃ t30 : Int, ∃ t30_1 : Sl, (At (fun w' => w' = w_2) ⟨b_l1, 0, none⟩ [.int .i64 t30, .slice t30_1.a t30_1.len t30_1.cap]) ∧
            Calls Tryz.prog 217 #[.agg #[.int .i64 t30, .slice t30_1.a t30_1.len t30_1.cap]] w_2 fun e_1 w_3 =>
            ∃ t31 : Int, (e_1 = .returned (.int .i64 t31)) ∧
            K (.bool (decide (t31 ≤ 10))) w_3)))))) w
def sk160 : Sk := .leaf
theorem ok160 : fnOk Tryz.prog Tryz.f160.ntmps Tryz.f160 sk160 = true := by kernel_rfl
theorem eq160 (l0_0 : Int) (l0_1 : Sl) (K : Value → World → Prop) (w : World) : fnF Tryz.prog cl Tryz.f160 sk160 [.agg #[.int .i64 l0_0, .slice l0_1.a l0_1.len l0_1.cap]] K w = B160 l0_0 l0_1 K w := by kernel_rfl
theorem call160 (l0_0 : Int) (l0_1 : Sl) (K : Value → World → Prop) (w : World) (h : B160 l0_0 l0_1 K w) : Gets Tryz.prog 160 #[.agg #[.int .i64 l0_0, .slice l0_1.a l0_1.len l0_1.cap]] w K :=
  calls_of (sk := sk160) cl_ok mixed Tryz.func160 ok160 (args := [.agg #[.int .i64 l0_0, .slice l0_1.a l0_1.len l0_1.cap]]) (Nat.le_of_ble_eq_true (by kernel_rfl)) (by rw [eq160]; exact h)
def B215 (g0 : Int) (K : Value → World → Prop) (w : World) : Prop :=
  Br (decide (g0 < 1))
   (K (.bool true) w)
   (K (.bool (decide (g0 > 10))) w)
def sk215 : Sk := .leaf
theorem ok215 : fnOk Tryz.prog Tryz.f215.ntmps Tryz.f215 sk215 = true := by kernel_rfl
theorem eq215 (g0 : Int) (K : Value → World → Prop) (w : World) : fnF Tryz.prog cl Tryz.f215 sk215 [.int .i64 g0] K w = B215 g0 K w := by kernel_rfl
theorem call215 (g0 : Int) (K : Value → World → Prop) (w : World) (h : B215 g0 K w) : Gets Tryz.prog 215 #[.int .i64 g0] w K :=
  calls_of (sk := sk215) cl_ok mixed Tryz.func215 ok215 (args := [.int .i64 g0]) (Nat.le_of_ble_eq_true (by kernel_rfl)) (by rw [eq215]; exact h)
def B217 (l0_0 : Int) (l0_1 : Sl) (K : Value → World → Prop) (w : World) : Prop :=
  New (.cells #[.int .i64 l0_0, .slice l0_1.a l0_1.len l0_1.cap] 35 (0, 0)) (fun b_l1 w_1 =>
  ∃ t7 : Sl, (At (fun w' => w' = w_1) ⟨b_l1, 0 + 1, none⟩ [.slice t7.a t7.len t7.cap]) ∧
  ∃ (I : Int → Int → World → Prop) (μ : Int → Int → World → Nat), (I 0 0 w_1) ∧ ∀ (z : Env) (n3 : Int) (t9 : Int) (w_2 : World), I n3 t9 w_2 →
  Br (decide (t9 < (↑t7.len : Int)))
   (Rng t9 t7.len (NilP t7.a fun a_t11 =>
    ∃ t12 : Int, (At (fun w' => w' = w_2) (Addr.add a_t11 t9.toNat) [.int .i64 t12]) ∧
    (I (IntKind.i64.wrap (n3 + t12)) (IntKind.i64.wrap (t9 + 1)) w_2) ∧ μ (IntKind.i64.wrap (n3 + t12)) (IntKind.i64.wrap (t9 + 1)) w_2 < μ n3 t9 w_2))
   (K (.int .i64 n3) w_2)) w
def sk217 : Sk := (.seq .leaf (.seq .leaf (.seq (.seq .leaf (.block (.loop [3, 9] [(.int .i64), (.int .i64)] [3, 5, 9, 10, 11, 12, 13, 14, 15, 16] .leaf))) .leaf)))
theorem ok217 : fnOk Tryz.prog Tryz.f217.ntmps Tryz.f217 sk217 = true := by kernel_rfl
theorem eq217 (l0_0 : Int) (l0_1 : Sl) (K : Value → World → Prop) (w : World) : fnF Tryz.prog cl Tryz.f217 sk217 [.agg #[.int .i64 l0_0, .slice l0_1.a l0_1.len l0_1.cap]] K w = B217 l0_0 l0_1 K w := by kernel_rfl
theorem call217 (l0_0 : Int) (l0_1 : Sl) (K : Value → World → Prop) (w : World) (h : B217 l0_0 l0_1 K w) : Gets Tryz.prog 217 #[.agg #[.int .i64 l0_0, .slice l0_1.a l0_1.len l0_1.cap]] w K :=
  calls_of (sk := sk217) cl_ok mixed Tryz.func217 ok217 (args := [.agg #[.int .i64 l0_0, .slice l0_1.a l0_1.len l0_1.cap]]) (Nat.le_of_ble_eq_true (by kernel_rfl)) (by rw [eq217]; exact h)
def B162 (l0_0 : Int) (l0_1 : Sl) (K : Value → World → Prop) (w : World) : Prop :=
  New (.cells #[.int .i64 l0_0, .slice l0_1.a l0_1.len l0_1.cap] 35 (0, 0)) (fun b_l1 w_1 =>
  ∃ t3 : Int, ∃ t3_1 : Sl, (At (fun w' => w' = w_1) ⟨b_l1, 0, none⟩ [.int .i64 t3, .slice t3_1.a t3_1.len t3_1.cap]) ∧
  Calls Tryz.prog 160 #[.agg #[.int .i64 t3, .slice t3_1.a t3_1.len t3_1.cap]] w_1 fun e w_2 =>
  ∃ t4 : Bool, (e = .returned (.bool t4)) ∧
  Br (!t4)
   (K (.int .i64 0) w_2)
   (Drw w_2 fun S w_3 =>
    ∃ t7 : Int, (At S ⟨b_l1, 0, none⟩ [.int .i64 t7]) ∧
    ∃ t8 : Int, ∃ t8_1 : Sl, (At S ⟨b_l1, 0, none⟩ [.int .i64 t8, .slice t8_1.a t8_1.len t8_1.cap]) ∧
    Calls Tryz.prog 217 #[.agg #[.int .i64 t8, .slice t8_1.a t8_1.len t8_1.cap]] w_3 fun e_1 w_4 =>
    ∃ t9 : Int, (e_1 = .returned (.int .i64 t9)) ∧
    (S w_4) ∧
    K (.int .i64 (IntKind.i64.wrap (t7 * t9))) w_4)) w
def sk162 : Sk := .leaf
theorem ok162 : fnOk Tryz.prog Tryz.f162.ntmps Tryz.f162 sk162 = true := by kernel_rfl
theorem eq162 (l0_0 : Int) (l0_1 : Sl) (K : Value → World → Prop) (w : World) : fnF Tryz.prog cl Tryz.f162 sk162 [.agg #[.int .i64 l0_0, .slice l0_1.a l0_1.len l0_1.cap]] K w = B162 l0_0 l0_1 K w := by kernel_rfl
theorem call162 (l0_0 : Int) (l0_1 : Sl) (K : Value → World → Prop) (w : World) (h : B162 l0_0 l0_1 K w) : Gets Tryz.prog 162 #[.agg #[.int .i64 l0_0, .slice l0_1.a l0_1.len l0_1.cap]] w K :=
  calls_of (sk := sk162) cl_ok mixed Tryz.func162 ok162 (args := [.agg #[.int .i64 l0_0, .slice l0_1.a l0_1.len l0_1.cap]]) (Nat.le_of_ble_eq_true (by kernel_rfl)) (by rw [eq162]; exact h)
def B226 (n0 : Int) (K : Value → World → Prop) (w : World) : Prop :=
  Br (decide (n0 ≥ 0))
   (K (.bool (decide (n0 ≤ 10000))) w)
   (K (.bool false) w)
def sk226 : Sk := .leaf
theorem ok226 : fnOk Tryz.prog Tryz.f226.ntmps Tryz.f226 sk226 = true := by kernel_rfl
theorem eq226 (n0 : Int) (K : Value → World → Prop) (w : World) : fnF Tryz.prog cl Tryz.f226 sk226 [.int .i64 n0] K w = B226 n0 K w := by kernel_rfl
theorem call226 (n0 : Int) (K : Value → World → Prop) (w : World) (h : B226 n0 K w) : Gets Tryz.prog 226 #[.int .i64 n0] w K :=
  calls_of (sk := sk226) cl_ok mixed Tryz.func226 ok226 (args := [.int .i64 n0]) (Nat.le_of_ble_eq_true (by kernel_rfl)) (by rw [eq226]; exact h)
def B197 (limits0 : Sl) (sold1 : Sl) (ask2 : Value) (K : Value → World → Prop) (w : World) : Prop :=
  ∃ (J : World → Prop), (Br (decide ((↑limits0.len : Int) < 1))
     (K (.bool false) w)
     (Br (decide ((↑limits0.len : Int) > 8))
       (K (.bool false) w)
       (Br ((↑sold1.len : Int) != (↑limits0.len : Int))
         (K (.bool false) w)
         (J  w)))) ∧
  ∀ (z : Env)  (w_1 : World), J  w_1 →
  ∃ (I : Int → Bool → Int → World → Prop) (μ : Int → Bool → Int → World → Nat), (I 0 true (IntKind.i64.wrap ((↑limits0.len : Int) - 1)) w_1) ∧ ∀ (z_1 : Env) (sum7 : Int) (fine8 : Bool) (k9 : Int) (w_2 : World), I sum7 fine8 k9 w_2 →
  Br (decide (k9 ≥ 0))
   (∃ (J_1 : World → Prop), (Drw w_2 fun S w_3 =>
      Rng k9 limits0.len (NilP limits0.a fun a_t34 =>
      ∃ t35 : Int, (At S (Addr.add a_t34 k9.toNat) [.int .i64 t35]) ∧
      Calls Tryz.prog 226 #[.int .i64 t35] w_3 fun e w_4 =>
      ∃ t36 : Bool, (e = .returned (.bool t36)) ∧
      (S w_4) ∧
      Br (!t36)
       (K (.bool false) w_4)
       (Rng k9 sold1.len (NilP sold1.a fun a_t41 =>
        ∃ t42 : Int, (At S (Addr.add a_t41 k9.toNat) [.int .i64 t42]) ∧
        Calls Tryz.prog 226 #[.int .i64 t42] w_4 fun e_1 w_5 =>
        ∃ t43 : Bool, (e_1 = .returned (.bool t43)) ∧
        (S w_5) ∧
        Br (!t43)
         (K (.bool false) w_5)
         (Br (decide (k9 > 0))
           (Rng k9 limits0.len (NilP limits0.a fun a_t52 =>
            ∃ t53 : Int, (At S (Addr.add a_t52 k9.toNat) [.int .i64 t53]) ∧
            Rng (IntKind.i64.wrap (k9 - 1)) limits0.len (NilP limits0.a fun a_t57 =>
            ∃ t58 : Int, (At S (Addr.add a_t57 ((IntKind.i64.wrap (k9 - 1)).toNat)) [.int .i64 t58]) ∧
            Br (decide (t53 > t58))
             (K (.bool false) w_5)
             (J_1  w_5))))
           (J_1  w_5)))))) ∧
    ∀ (z_2 : Env)  (w_6 : World), J_1  w_6 →
    Rng k9 sold1.len (NilP sold1.a fun a_t65 =>
    ∃ t66 : Int, (At (fun w' => w' = w_6) (Addr.add a_t65 k9.toNat) [.int .i64 t66]) ∧
    Br fine8
     (Rng k9 limits0.len (NilP limits0.a fun a_t73 =>
      ∃ t74 : Int, (At (fun w' => w' = w_6) (Addr.add a_t73 k9.toNat) [.int .i64 t74]) ∧
      Rng k9 limits0.len (NilP limits0.a fun a_t81 =>
      ∃ t82 : Int, (At (fun w' => w' = w_6) (Addr.add a_t81 k9.toNat) [.int .i64 t82]) ∧
      CalW Tryz.prog cl ask2 [.int .i64 k9, .int .i64 (IntKind.i64.wrap (t82 - IntKind.i64.wrap (sum7 + t66)))] w_6 fun e_2 w_7 =>
      (e_2 = .returned (.tuple #[])) ∧
      (I (IntKind.i64.wrap (sum7 + t66)) (decide (IntKind.i64.wrap (sum7 + t66) ≤ t74)) (IntKind.i64.wrap (k9 - 1)) w_7) ∧ μ (IntKind.i64.wrap (sum7 + t66)) (decide (IntKind.i64.wrap (sum7 + t66) ≤ t74)) (IntKind.i64.wrap (k9 - 1)) w_7 < μ sum7 fine8 k9 w_2)))
     (Rng k9 limits0.len (NilP limits0.a fun a_t81_1 =>
      ∃ t82_1 : Int, (At (fun w' => w' = w_6) (Addr.add a_t81_1 k9.toNat) [.int .i64 t82_1]) ∧
      CalW Tryz.prog cl ask2 [.int .i64 k9, .int .i64 (IntKind.i64.wrap (t82_1 - IntKind.i64.wrap (sum7 + t66)))] w_6 fun e_3 w_8 =>
      (e_3 = .returned (.tuple #[])) ∧
      (I (IntKind.i64.wrap (sum7 + t66)) false (IntKind.i64.wrap (k9 - 1)) w_8) ∧ μ (IntKind.i64.wrap (sum7 + t66)) false (IntKind.i64.wrap (k9 - 1)) w_8 < μ sum7 fine8 k9 w_2))))
   (K (.bool fine8) w_2)
def sk197 : Sk := (.seq .leaf (.cut [] [] [6, 10, 11, 12, 13, 14, 15, 16, 17, 18, 19, 20, 21, 22, 23, 24] .leaf (.seq .leaf (.seq (.seq .leaf (.block (.loop [7, 8, 9] [(.int .i64), .bool, (.int .i64)] [6, 7, 8, 9, 28, 29, 30, 31, 32, 33, 34, 35, 36, 37, 38, 39, 40, 41, 42, 43, 44, 45, 46, 47, 48, 49, 50, 51, 52, 53, 54, 55, 56, 57, 58, 59, 60, 61, 62, 63, 64, 65, 66, 67, 68, 69, 70, 71, 72, 73, 74, 75, 76, 77, 78, 79, 80, 81, 82, 83, 84, 85] (.seq .leaf (.seq (.block (.cut [] [] [6, 32, 33, 34, 35, 36, 37, 38, 39, 40, 41, 42, 43, 44, 45, 46, 47, 48, 49, 50, 51, 52, 53, 54, 55, 56, 57, 58, 59, 60, 61] .leaf .leaf)) .leaf))))) .leaf))))
theorem ok197 : fnOk Tryz.prog Tryz.f197.ntmps Tryz.f197 sk197 = true := by kernel_rfl
theorem eq197 (limits0 : Sl) (sold1 : Sl) (ask2 : Value) (K : Value → World → Prop) (w : World) : fnF Tryz.prog cl Tryz.f197 sk197 [.slice limits0.a limits0.len limits0.cap, .slice sold1.a sold1.len sold1.cap, ask2] K w = B197 limits0 sold1 ask2 K w := by kernel_rfl
theorem call197 (limits0 : Sl) (sold1 : Sl) (ask2 : Value) (K : Value → World → Prop) (w : World) (h : B197 limits0 sold1 ask2 K w) : Gets Tryz.prog 197 #[.slice limits0.a limits0.len limits0.cap, .slice sold1.a sold1.len sold1.cap, ask2] w K :=
  calls_of (sk := sk197) cl_ok mixed Tryz.func197 ok197 (args := [.slice limits0.a limits0.len limits0.cap, .slice sold1.a sold1.len sold1.cap, ask2]) (Nat.le_of_ble_eq_true (by kernel_rfl)) (by rw [eq197]; exact h)
def B131 (limits0 : Sl) (sold1 : Sl) (class2 : Int) (K : Value → World → Prop) (w : World) : Prop :=
  New (.cells #[.int .i64 class2] 3 (0, 0)) (fun b_class5 w_1 =>
  New (.cells #[.int .i64 0] 3 (0, 0)) (fun b_least8 w_2 =>
  ∃ w_3 : World, ((Instr.storeAt 3 (.pointer ((some ⟨b_least8, 0, none⟩))) (.int .i64 10000)).run Tryz.prog w_2 = .ok () w_3) ∧
  Calls Tryz.prog 197 #[.slice limits0.a limits0.len limits0.cap, .slice sold1.a sold1.len sold1.cap, .func (.func 198) #[] #[.pointer ((some ⟨b_class5, 0, none⟩)), .pointer ((some ⟨b_least8, 0, none⟩))]] w_3 fun e w_4 =>
  ∃ t13 : Bool, (e = .returned (.bool t13)) ∧
  Br (!t13)
   (K (.tuple #[.int .i64 0, .int .i64 1]) w_4)
   (∃ t17 : Int, (At (fun w' => w' = w_4) ⟨b_class5, 0, none⟩ [.int .i64 t17]) ∧
    Br (decide (t17 < 0))
     (K (.tuple #[.int .i64 0, .int .i64 1]) w_4)
     (∃ t21 : Int, (At (fun w' => w' = w_4) ⟨b_class5, 0, none⟩ [.int .i64 t21]) ∧
      Br (decide (t21 ≥ (↑limits0.len : Int)))
       (K (.tuple #[.int .i64 0, .int .i64 1]) w_4)
       (∃ t26 : Int, (At (fun w' => w' = w_4) ⟨b_least8, 0, none⟩ [.int .i64 t26]) ∧
        K (.tuple #[.int .i64 t26, .int .i64 0]) w_4)))) w_1) w
def sk131 : Sk := .leaf
theorem ok131 : fnOk Tryz.prog Tryz.f131.ntmps Tryz.f131 sk131 = true := by kernel_rfl
theorem eq131 (limits0 : Sl) (sold1 : Sl) (class2 : Int) (K : Value → World → Prop) (w : World) : fnF Tryz.prog cl Tryz.f131 sk131 [.slice limits0.a limits0.len limits0.cap, .slice sold1.a sold1.len sold1.cap, .int .i64 class2] K w = B131 limits0 sold1 class2 K w := by kernel_rfl
theorem call131 (limits0 : Sl) (sold1 : Sl) (class2 : Int) (K : Value → World → Prop) (w : World) (h : B131 limits0 sold1 class2 K w) : Gets Tryz.prog 131 #[.slice limits0.a limits0.len limits0.cap, .slice sold1.a sold1.len sold1.cap, .int .i64 class2] w K :=
  calls_of (sk := sk131) cl_ok mixed Tryz.func131 ok131 (args := [.slice limits0.a limits0.len limits0.cap, .slice sold1.a sold1.len sold1.cap, .int .i64 class2]) (Nat.le_of_ble_eq_true (by kernel_rfl)) (by rw [eq131]; exact h)
def B198 (k0 : Int) (left1 : Int) (c2 : Option Addr) (c3 : Option Addr) (K : Value → World → Prop) (w : World) : Prop :=
  NilP c2 fun a_t7 =>
  ∃ t7 : Int, (At (fun w' => w' = w) a_t7 [.int .i64 t7]) ∧
  Br (decide (k0 ≤ t7))
   (NilP c3 fun a_t9 =>
    ∃ t9 : Int, (At (fun w' => w' = w) a_t9 [.int .i64 t9]) ∧
    ∃ w_1 : World, ((Instr.storeAt 3 (.pointer c3) (.int .i64 (if left1 < t9 then left1 else t9))).run Tryz.prog w = .ok () w_1) ∧
    K (.tuple #[]) w_1)
   (K (.tuple #[]) w)
def sk198 : Sk := .leaf
theorem ok198 : fnOk Tryz.prog Tryz.f198.ntmps Tryz.f198 sk198 = true := by kernel_rfl
theorem eq198 (k0 : Int) (left1 : Int) (c2 : Option Addr) (c3 : Option Addr) (K : Value → World → Prop) (w : World) : fnF Tryz.prog cl Tryz.f198 sk198 [.int .i64 k0, .int .i64 left1, .pointer c2, .pointer c3] K w = B198 k0 left1 c2 c3 K w := by kernel_rfl
theorem call198 (k0 : Int) (left1 : Int) (c2 : Option Addr) (c3 : Option Addr) (K : Value → World → Prop) (w : World) (h : B198 k0 left1 c2 c3 K w) : Gets Tryz.prog 198 #[.int .i64 k0, .int .i64 left1, .pointer c2, .pointer c3] w K :=
  calls_of (sk := sk198) cl_ok mixed Tryz.func198 ok198 (args := [.int .i64 k0, .int .i64 left1, .pointer c2, .pointer c3]) (Nat.le_of_ble_eq_true (by kernel_rfl)) (by rw [eq198]; exact h)
def B177 (seats0 : Int) (parts1 : Sl) (K : Value → World → Prop) (w : World) : Prop :=
  ∃ (J : World → Prop), (Calls Tryz.prog 226 #[.int .i64 seats0] w fun e w_1 =>
    ∃ t12 : Bool, (e = .returned (.bool t12)) ∧
    Br (!t12)
     (K (.tuple #[.slice none 0 0, .int .i64 1]) w_1)
     (Br (decide ((↑parts1.len : Int) < 1))
       (K (.tuple #[.slice none 0 0, .int .i64 1]) w_1)
       (Br (decide ((↑parts1.len : Int) > 8))
         (K (.tuple #[.slice none 0 0, .int .i64 1]) w_1)
         (J  w_1)))) ∧
  ∀ (z : Env)  (w_2 : World), J  w_2 →
  New (.cells #[.int .i64 seats0] 3 (0, 0)) (fun b_t25 w_3 =>
  ((0 : Int) ≤ 1) ∧
  ((1 : Int) ≤ (↑parts1.len : Int)) ∧
  ∃ (I : Sl → Int → World → Prop) (μ : Sl → Int → World → Nat), (I ⟨(some ⟨b_t25, 0, none⟩), 1, 1⟩ 0 w_3) ∧ ∀ (z_1 : Env) (out6 : Sl) (t29 : Int) (w_4 : World), I out6 t29 w_4 →
  Br (decide (t29 < (↑(parts1.len - Int.toNat 1) : Int)))
   (Rng t29 (parts1.len - Int.toNat 1) (NilP (cutA parts1.a (Int.toNat 1) parts1.cap 1) fun a_t32 =>
    ∃ t33 : Nat, (At (fun w' => w' = w_4) (Addr.add a_t32 t29.toNat) [.float .f64 t33]) ∧
    Calls Tryz.prog 227 #[.float .f64 t33, .int .i64 seats0] w_4 fun e_1 w_5 =>
    ∃ t37 : Int, ∃ t37_1 : Int, (e_1 = .returned (.tuple #[.int .i64 t37, .int .i64 t37_1])) ∧
    Rng t29 out6.len (NilP out6.a fun a_t44 =>
    ∃ t45 : Int, (At (fun w' => w' = w_5) (Addr.add a_t44 t29.toNat) [.int .i64 t45]) ∧
    New (.cells #[.int .i64 (if t45 < t37 then t45 else t37)] 3 (0, 0)) (fun b_t47 w_6 =>
    ∃ w_7 : World, ∃ t48 : Sl, ((Builtin.append_ #[28, 28] 28 #[.slice out6.a out6.len out6.cap, .slice ((some ⟨b_t47, 0, none⟩)) 1 1]).run Tryz.prog w_6 = .ok (.slice t48.a t48.len t48.cap) w_7) ∧
    (I t48 (IntKind.i64.wrap (t29 + 1)) w_7) ∧ μ t48 (IntKind.i64.wrap (t29 + 1)) w_7 < μ out6 t29 w_4) w_5)))
   (K (.tuple #[.slice out6.a out6.len out6.cap, .int .i64 0]) w_4)) w_2
def sk177 : Sk := (.seq .leaf (.cut [] [] [4, 5, 11, 12, 13, 14, 15, 16, 17, 18, 19, 20, 21, 22, 23] .leaf (.seq .leaf (.seq (.seq .leaf (.block (.loop [6, 29] [.sl, (.int .i64)] [6, 7, 8, 9, 10, 29, 30, 31, 32, 33, 34, 35, 36, 37, 38, 39, 40, 41, 42, 43, 44, 45, 46, 47, 48, 49] .leaf))) .leaf))))
theorem ok177 : fnOk Tryz.prog Tryz.f177.ntmps Tryz.f177 sk177 = true := by kernel_rfl
theorem eq177 (seats0 : Int) (parts1 : Sl) (K : Value → World → Prop) (w : World) : fnF Tryz.prog cl Tryz.f177 sk177 [.int .i64 seats0, .slice parts1.a parts1.len parts1.cap] K w = B177 seats0 parts1 K w := by kernel_rfl
theorem call177 (seats0 : Int) (parts1 : Sl) (K : Value → World → Prop) (w : World) (h : B177 seats0 parts1 K w) : Gets Tryz.prog 177 #[.int .i64 seats0, .slice parts1.a parts1.len parts1.cap] w K :=
  calls_of (sk := sk177) cl_ok mixed Tryz.func177 ok177 (args := [.int .i64 seats0, .slice parts1.a parts1.len parts1.cap]) (Nat.le_of_ble_eq_true (by kernel_rfl)) (by rw [eq177]; exact h)
def B227 (part0 : Nat) (seats1 : Int) (K : Value → World → Prop) (w : World) : Prop :=
  ∃ (J : Bool → World → Prop), (Br (decide (seats1 < 0))
     (J true w)
     (J (decide (seats1 > 10000)) w)) ∧
  ∀ (z : Env) (t6 : Bool) (w_1 : World), J t6 w_1 →
  Br t6
   (K (.tuple #[.int .i64 0, .int .i64 1]) w_1)
   (∃ t15 : Bool, (∀ w', (fun w' => w' = w_1) w' → ((do eqGuard BinOp.gtr 33 (Operand.tmp 14) (Operand.const (Value.float FloatKind.f64 0)) (.float .f64 part0) (.float .f64 0); binOp BinOp.gtr 33 (.float .f64 part0) (.float .f64 0) : Sem Value)).run Tryz.prog w' = .ok (.bool t15) w') ∧
    Br (!t15)
     (K (.tuple #[.int .i64 0, .int .i64 0]) w_1)
     (∃ t19 : Bool, (∀ w', (fun w' => w' = w_1) w' → ((do eqGuard BinOp.geq 33 (Operand.tmp 18) (Operand.const (Value.float FloatKind.f64 4607182418800017408)) (.float .f64 part0) (.float .f64 4607182418800017408); binOp BinOp.geq 33 (.float .f64 part0) (.float .f64 4607182418800017408) : Sem Value)).run Tryz.prog w' = .ok (.bool t19) w') ∧
      Br t19
       (K (.tuple #[.int .i64 seats1, .int .i64 0]) w_1)
       (∃ w_2 : World, ∃ t23 : Nat, ((convert 3 33 (.int .i64 seats1)).run Tryz.prog w_1 = .ok (.float .f64 t23) w_2) ∧
        ∃ t24 : Nat, (∀ w', (fun w' => w' = w_2) w' → ((do eqGuard BinOp.mul 33 (Operand.tmp 21) (Operand.tmp 23) (.float .f64 part0) (.float .f64 t23); binOp BinOp.mul 33 (.float .f64 part0) (.float .f64 t23) : Sem Value)).run Tryz.prog w' = .ok (.float .f64 t24) w') ∧
        Calls Tryz.prog 260 #[.float .f64 t24] w_2 fun e w_3 =>
        ∃ t25 : Nat, (e = .returned (.float .f64 t25)) ∧
        ∃ t26 : Int, (∀ w', (fun w' => w' = w_3) w' → ((convert 33 3 (.float .f64 t25))).run Tryz.prog w' = .ok (.int .i64 t26) w') ∧
        K (.tuple #[.int .i64 t26, .int .i64 0]) w_3)))
def sk227 : Sk := (.seq .leaf (.seq (.block (.cut [6] [.bool] [6, 7, 8, 9, 10, 11, 12] .leaf .leaf)) .leaf))
theorem ok227 : fnOk Tryz.prog Tryz.f227.ntmps Tryz.f227 sk227 = true := by kernel_rfl
theorem eq227 (part0 : Nat) (seats1 : Int) (K : Value → World → Prop) (w : World) : fnF Tryz.prog cl Tryz.f227 sk227 [.float .f64 part0, .int .i64 seats1] K w = B227 part0 seats1 K w := by kernel_rfl
theorem call227 (part0 : Nat) (seats1 : Int) (K : Value → World → Prop) (w : World) (h : B227 part0 seats1 K w) : Gets Tryz.prog 227 #[.float .f64 part0, .int .i64 seats1] w K :=
  calls_of (sk := sk227) cl_ok mixed Tryz.func227 ok227 (args := [.float .f64 part0, .int .i64 seats1]) (Nat.le_of_ble_eq_true (by kernel_rfl)) (by rw [eq227]; exact h)
def B260 (x0 : Nat) (K : Value → World → Prop) (w : World) : Prop :=
  Ext Tryz.prog 274 #[.float .f64 x0] w fun e w_1 =>
  ∃ t4 : Nat, (e = .returned (.float .f64 t4)) ∧
  K (.float .f64 t4) w_1
def sk260 : Sk := .leaf
theorem ok260 : fnOk Tryz.prog Tryz.f260.ntmps Tryz.f260 sk260 = true := by kernel_rfl
theorem eq260 (x0 : Nat) (K : Value → World → Prop) (w : World) : fnF Tryz.prog cl Tryz.f260 sk260 [.float .f64 x0] K w = B260 x0 K w := by kernel_rfl
theorem call260 (x0 : Nat) (K : Value → World → Prop) (w : World) (h : B260 x0 K w) : Gets Tryz.prog 260 #[.float .f64 x0] w K :=
  calls_of (sk := sk260) cl_ok mixed Tryz.func260 ok260 (args := [.float .f64 x0]) (Nat.le_of_ble_eq_true (by kernel_rfl)) (by rw [eq260]; exact h)
end Go.Proofs.YtfgbbckfikiomaaGreatDoor
/- The formulas of functions of this seat's translation, printed by a program of mine off the translation; each is proved equal to 'fnF' of the function's body, so it is enough for the call. No condition. -/
namespace Go.Proofs.YtfgbbckfikiomaaGreatDoor
open Go Go.VC
set_option linter.unusedVariables false
def B109 (number0 : Int) (l1_0 : Int) (l1_1 : Sl) (parts2 : Sl) (K : Value → World → Prop) (w : World) : Prop :=
  New (.cells #[.int .i64 l1_0, .slice l1_1.a l1_1.len l1_1.cap] 35 (0, 0)) (fun b_l4 w_1 =>
  ∃ t11 : Int, ∃ t11_1 : Sl, (At (fun w' => w' = w_1) ⟨b_l4, 0, none⟩ [.int .i64 t11, .slice t11_1.a t11_1.len t11_1.cap]) ∧
  Calls Tryz.prog 162 #[.agg #[.int .i64 t11, .slice t11_1.a t11_1.len t11_1.cap]] w_1 fun e w_2 =>
  ∃ t12 : Int, (e = .returned (.int .i64 t12)) ∧
  Calls Tryz.prog 177 #[.int .i64 t12, .slice parts2.a parts2.len parts2.cap] w_2 fun e_1 w_3 =>
  ∃ t14 : Sl, ∃ t14_1 : Int, (e_1 = .returned (.tuple #[.slice t14.a t14.len t14.cap, .int .i64 t14_1])) ∧
  Br (decide (number0 < 1))
   (K (.tuple #[.pointer none, .int .i64 1]) w_3)
   (Br (decide (number0 > 9999))
     (K (.tuple #[.pointer none, .int .i64 1]) w_3)
     (∃ t24 : Int, ∃ t24_1 : Sl, (At (fun w' => w' = w_3) ⟨b_l4, 0, none⟩ [.int .i64 t24, .slice t24_1.a t24_1.len t24_1.cap]) ∧
      Calls Tryz.prog 160 #[.agg #[.int .i64 t24, .slice t24_1.a t24_1.len t24_1.cap]] w_3 fun e_2 w_4 =>
      ∃ t25 : Bool, (e_2 = .returned (.bool t25)) ∧
      Br (!t25)
       (K (.tuple #[.pointer none, .int .i64 1]) w_4)
       (Br (t14_1 != 0)
         (K (.tuple #[.pointer none, .int .i64 1]) w_4)
         (∃ t33 : Sl, (At (fun w' => w' = w_4) ⟨b_l4, 0 + 1, none⟩ [.slice t33.a t33.len t33.cap]) ∧
          Calls Tryz.prog 172 #[.slice t33.a t33.len t33.cap] w_4 fun e_3 w_5 =>
          ∃ t34 : Sl, (e_3 = .returned (.slice t34.a t34.len t34.cap)) ∧
          ∃ w_6 : World, ((Instr.storeAt 28 (.pointer ((some ⟨b_l4, 0 + 1, none⟩))) (.slice t34.a t34.len t34.cap)).run Tryz.prog w_5 = .ok () w_6) ∧
          ∃ t37 : Int, ∃ t37_1 : Sl, (At (fun w' => w' = w_6) ⟨b_l4, 0, none⟩ [.int .i64 t37, .slice t37_1.a t37_1.len t37_1.cap]) ∧
          Calls Tryz.prog 159 #[.int .i64 number0, .agg #[.int .i64 t37, .slice t37_1.a t37_1.len t37_1.cap], .slice t14.a t14.len t14.cap] w_6 fun e_4 w_7 =>
          ∃ t39 : Option Addr, (e_4 = .returned (.pointer t39)) ∧
          K (.tuple #[.pointer t39, .int .i64 0]) w_7))))) w
def sk109 : Sk := .leaf
theorem ok109 : fnOk Tryz.prog Tryz.f109.ntmps Tryz.f109 sk109 = true := by kernel_rfl
theorem eq109 (number0 : Int) (l1_0 : Int) (l1_1 : Sl) (parts2 : Sl) (K : Value → World → Prop) (w : World) : fnF Tryz.prog cl Tryz.f109 sk109 [.int .i64 number0, .agg #[.int .i64 l1_0, .slice l1_1.a l1_1.len l1_1.cap], .slice parts2.a parts2.len parts2.cap] K w = B109 number0 l1_0 l1_1 parts2 K w := by kernel_rfl
theorem call109 (number0 : Int) (l1_0 : Int) (l1_1 : Sl) (parts2 : Sl) (K : Value → World → Prop) (w : World) (h : B109 number0 l1_0 l1_1 parts2 K w) : Gets Tryz.prog 109 #[.int .i64 number0, .agg #[.int .i64 l1_0, .slice l1_1.a l1_1.len l1_1.cap], .slice parts2.a parts2.len parts2.cap] w K :=
  calls_of (sk := sk109) cl_ok mixed Tryz.func109 ok109 (args := [.int .i64 number0, .agg #[.int .i64 l1_0, .slice l1_1.a l1_1.len l1_1.cap], .slice parts2.a parts2.len parts2.cap]) (Nat.le_of_ble_eq_true (by kernel_rfl)) (by rw [eq109]; exact h)
def B159 (number0 : Int) (l1_0 : Int) (l1_1 : Sl) (limits2 : Sl) (K : Value → World → Prop) (w : World) : Prop :=
  New (.cells #[.int .i64 l1_0, .slice l1_1.a l1_1.len l1_1.cap] 35 (0, 0)) (fun b_l4 w_1 =>
  Drw w_1 fun S w_2 =>
  ∃ t8 : Int, ∃ t8_1 : Sl, (At S ⟨b_l4, 0, none⟩ [.int .i64 t8, .slice t8_1.a t8_1.len t8_1.cap]) ∧
  (∃ w_3 : World, ∃ t12 : Sl, ((Instr.makeSlice 28 (.int .i64 ((↑limits2.len : Int))) (.int .i64 ((↑limits2.len : Int)))).run Tryz.prog w_2 = .ok (.slice t12.a t12.len t12.cap) w_3) ∧
  (S w_3) ∧
  (New (.map #[] 0) (fun b_t13 w_4 =>
  (S w_4) ∧
  New (.map #[] 0) (fun b_t14 w_5 =>
  (S w_5) ∧
  New (.cells #[.int .i64 number0, .int .i64 t8, .slice t8_1.a t8_1.len t8_1.cap, .slice limits2.a limits2.len limits2.cap, .slice t12.a t12.len t12.cap, .map ((some b_t13)), .map ((some b_t14))] 174 (0, 0)) (fun b_t16 w_6 =>
  (S w_6) ∧
  K (.pointer ((some ⟨b_t16, 0, none⟩))) w_6) w_5) w_4) w_3) ∧
  New (.map #[] 0) (fun b_t14_1 w_7 =>
  (S w_7) ∧
  New (.map #[] 0) (fun b_t13_1 w_8 =>
  (S w_8) ∧
  New (.cells #[.int .i64 number0, .int .i64 t8, .slice t8_1.a t8_1.len t8_1.cap, .slice limits2.a limits2.len limits2.cap, .slice t12.a t12.len t12.cap, .map ((some b_t13_1)), .map ((some b_t14_1))] 174 (0, 0)) (fun b_t16_1 w_9 =>
  (S w_9) ∧
  K (.pointer ((some ⟨b_t16_1, 0, none⟩))) w_9) w_8) w_7) w_3) ∧
  (New (.map #[] 0) (fun b_t13_2 w_10 =>
  (S w_10) ∧
  (∃ w_11 : World, ∃ t12_1 : Sl, ((Instr.makeSlice 28 (.int .i64 ((↑limits2.len : Int))) (.int .i64 ((↑limits2.len : Int)))).run Tryz.prog w_10 = .ok (.slice t12_1.a t12_1.len t12_1.cap) w_11) ∧
  (S w_11) ∧
  New (.map #[] 0) (fun b_t14_2 w_12 =>
  (S w_12) ∧
  New (.cells #[.int .i64 number0, .int .i64 t8, .slice t8_1.a t8_1.len t8_1.cap, .slice limits2.a limits2.len limits2.cap, .slice t12_1.a t12_1.len t12_1.cap, .map ((some b_t13_2)), .map ((some b_t14_2))] 174 (0, 0)) (fun b_t16_2 w_13 =>
  (S w_13) ∧
  K (.pointer ((some ⟨b_t16_2, 0, none⟩))) w_13) w_12) w_11) ∧
  New (.map #[] 0) (fun b_t14_3 w_14 =>
  (S w_14) ∧
  ∃ w_15 : World, ∃ t12_2 : Sl, ((Instr.makeSlice 28 (.int .i64 ((↑limits2.len : Int))) (.int .i64 ((↑limits2.len : Int)))).run Tryz.prog w_14 = .ok (.slice t12_2.a t12_2.len t12_2.cap) w_15) ∧
  (S w_15) ∧
  New (.cells #[.int .i64 number0, .int .i64 t8, .slice t8_1.a t8_1.len t8_1.cap, .slice limits2.a limits2.len limits2.cap, .slice t12_2.a t12_2.len t12_2.cap, .map ((some b_t13_2)), .map ((some b_t14_3))] 174 (0, 0)) (fun b_t16_3 w_16 =>
  (S w_16) ∧
  K (.pointer ((some ⟨b_t16_3, 0, none⟩))) w_16) w_15) w_10) w_2) ∧
  New (.map #[] 0) (fun b_t14_4 w_17 =>
  (S w_17) ∧
  (∃ w_18 : World, ∃ t12_3 : Sl, ((Instr.makeSlice 28 (.int .i64 ((↑limits2.len : Int))) (.int .i64 ((↑limits2.len : Int)))).run Tryz.prog w_17 = .ok (.slice t12_3.a t12_3.len t12_3.cap) w_18) ∧
  (S w_18) ∧
  New (.map #[] 0) (fun b_t13_3 w_19 =>
  (S w_19) ∧
  New (.cells #[.int .i64 number0, .int .i64 t8, .slice t8_1.a t8_1.len t8_1.cap, .slice limits2.a limits2.len limits2.cap, .slice t12_3.a t12_3.len t12_3.cap, .map ((some b_t13_3)), .map ((some b_t14_4))] 174 (0, 0)) (fun b_t16_4 w_20 =>
  (S w_20) ∧
  K (.pointer ((some ⟨b_t16_4, 0, none⟩))) w_20) w_19) w_18) ∧
  New (.map #[] 0) (fun b_t13_4 w_21 =>
  (S w_21) ∧
  ∃ w_22 : World, ∃ t12_4 : Sl, ((Instr.makeSlice 28 (.int .i64 ((↑limits2.len : Int))) (.int .i64 ((↑limits2.len : Int)))).run Tryz.prog w_21 = .ok (.slice t12_4.a t12_4.len t12_4.cap) w_22) ∧
  (S w_22) ∧
  New (.cells #[.int .i64 number0, .int .i64 t8, .slice t8_1.a t8_1.len t8_1.cap, .slice limits2.a limits2.len limits2.cap, .slice t12_4.a t12_4.len t12_4.cap, .map ((some b_t13_4)), .map ((some b_t14_4))] 174 (0, 0)) (fun b_t16_5 w_23 =>
  (S w_23) ∧
  K (.pointer ((some ⟨b_t16_5, 0, none⟩))) w_23) w_22) w_17) w_2) w
def sk159 : Sk := .leaf
theorem ok159 : fnOk Tryz.prog Tryz.f159.ntmps Tryz.f159 sk159 = true := by kernel_rfl
theorem eq159 (number0 : Int) (l1_0 : Int) (l1_1 : Sl) (limits2 : Sl) (K : Value → World → Prop) (w : World) : fnF Tryz.prog cl Tryz.f159 sk159 [.int .i64 number0, .agg #[.int .i64 l1_0, .slice l1_1.a l1_1.len l1_1.cap], .slice limits2.a limits2.len limits2.cap] K w = B159 number0 l1_0 l1_1 limits2 K w := by kernel_rfl
theorem call159 (number0 : Int) (l1_0 : Int) (l1_1 : Sl) (limits2 : Sl) (K : Value → World → Prop) (w : World) (h : B159 number0 l1_0 l1_1 limits2 K w) : Gets Tryz.prog 159 #[.int .i64 number0, .agg #[.int .i64 l1_0, .slice l1_1.a l1_1.len l1_1.cap], .slice limits2.a limits2.len limits2.cap] w K :=
  calls_of (sk := sk159) cl_ok mixed Tryz.func159 ok159 (args := [.int .i64 number0, .agg #[.int .i64 l1_0, .slice l1_1.a l1_1.len l1_1.cap], .slice limits2.a limits2.len limits2.cap]) (Nat.le_of_ble_eq_true (by kernel_rfl)) (by rw [eq159]; exact h)
def B58 (f0 : Option Addr) (K : Value → World → Prop) (w : World) : Prop :=
  NilP f0 fun a_t6 =>
  ∃ t8 : Sl, (At (fun w' => w' = w) ⟨a_t6.block, a_t6.off + 3, none⟩ [.slice t8.a t8.len t8.cap]) ∧
  ∃ w_1 : World, ∃ t10 : Sl, ((Instr.makeSlice 28 (.int .i64 ((↑t8.len : Int))) (.int .i64 ((↑t8.len : Int)))).run Tryz.prog w = .ok (.slice t10.a t10.len t10.cap) w_1) ∧
  ∃ (I : Int → World → Prop) (μ : Int → World → Nat), (I 0 w_1) ∧ ∀ (z : Env) (t13 : Int) (w_2 : World), I t13 w_2 →
  Br (decide (t13 < (↑t10.len : Int)))
   (Drw w_2 fun S w_3 =>
    NilP f0 fun a_t20 =>
    ∃ t22 : Sl, (At S ⟨a_t20.block, a_t20.off + 3, none⟩ [.slice t22.a t22.len t22.cap]) ∧
    NilP f0 fun a_t24 =>
    ∃ t26 : Sl, (At S ⟨a_t24.block, a_t24.off + 4, none⟩ [.slice t26.a t26.len t26.cap]) ∧
    Calls Tryz.prog 131 #[.slice t22.a t22.len t22.cap, .slice t26.a t26.len t26.cap, .int .i64 t13] w_3 fun e w_4 =>
    ∃ t28 : Int, ∃ t28_1 : Int, (e = .returned (.tuple #[.int .i64 t28, .int .i64 t28_1])) ∧
    Rng t13 t10.len (NilP t10.a fun a_t31 =>
    ∃ w_5 : World, ((Instr.storeAt 3 (.pointer ((some (Addr.add a_t31 t13.toNat)))) (.int .i64 t28)).run Tryz.prog w_4 = .ok () w_5) ∧
    (I (IntKind.i64.wrap (t13 + 1)) w_5) ∧ μ (IntKind.i64.wrap (t13 + 1)) w_5 < μ t13 w_2))
   (K (.slice t10.a t10.len t10.cap) w_2)
def sk58 : Sk := (.seq .leaf (.seq .leaf (.seq (.seq .leaf (.block (.loop [13] [(.int .i64)] [4, 13, 14, 15, 16, 17, 18, 19, 20, 21, 22, 23, 24, 25, 26, 27, 28, 29, 30, 31, 32] .leaf))) .leaf)))
theorem ok58 : fnOk Tryz.prog Tryz.f58.ntmps Tryz.f58 sk58 = true := by kernel_rfl
theorem eq58 (f0 : Option Addr) (K : Value → World → Prop) (w : World) : fnF Tryz.prog cl Tryz.f58 sk58 [.pointer f0] K w = B58 f0 K w := by kernel_rfl
theorem call58 (f0 : Option Addr) (K : Value → World → Prop) (w : World) (h : B58 f0 K w) : Gets Tryz.prog 58 #[.pointer f0] w K :=
  calls_of (sk := sk58) cl_ok mixed Tryz.func58 ok58 (args := [.pointer f0]) (Nat.le_of_ble_eq_true (by kernel_rfl)) (by rw [eq58]; exact h)
end Go.Proofs.YtfgbbckfikiomaaGreatDoor
/- The formulas of functions of this seat's translation, printed by a program of mine off the translation; each is proved equal to 'fnF' of the function's body, so it is enough for the call. No condition. -/
namespace Go.Proofs.YtfgbbckfikiomaaGreatDoor
open Go Go.VC
set_option linter.unusedVariables false
def B60 (a0 : Sl) (b1 : Sl) (K : Value → World → Prop) (w : World) : Prop :=
  Br ((↑a0.len : Int) != (↑b1.len : Int))
   (K (.bool false) w)
   (∃ (I : Int → World → Prop) (μ : Int → World → Nat), (I 0 w) ∧ ∀ (z : Env) (i5 : Int) (w_1 : World), I i5 w_1 →
    Br (decide (i5 < (↑a0.len : Int)))
     (Drw w_1 fun S w_2 =>
      Rng i5 a0.len (NilP a0.a fun a_t19 =>
      ∃ t20 : Int, (At S (Addr.add a_t19 i5.toNat) [.int .i64 t20]) ∧
      Rng i5 b1.len (NilP b1.a fun a_t23 =>
      ∃ t24 : Int, (At S (Addr.add a_t23 i5.toNat) [.int .i64 t24]) ∧
      Br (t20 != t24)
       (K (.bool false) w_2)
       ((I (IntKind.i64.wrap (i5 + 1)) w_2) ∧ μ (IntKind.i64.wrap (i5 + 1)) w_2 < μ i5 w_1))))
     (K (.bool true) w_1))
def sk60 : Sk := (.seq .leaf (.seq .leaf (.seq (.seq .leaf (.block (.loop [5] [(.int .i64)] [4, 5, 11, 12, 13, 14, 15, 16, 17, 18, 19, 20, 21, 22, 23, 24, 25] .leaf))) .leaf)))
theorem ok60 : fnOk Tryz.prog Tryz.f60.ntmps Tryz.f60 sk60 = true := by kernel_rfl
theorem eq60 (a0 : Sl) (b1 : Sl) (K : Value → World → Prop) (w : World) : fnF Tryz.prog cl Tryz.f60 sk60 [.slice a0.a a0.len a0.cap, .slice b1.a b1.len b1.cap] K w = B60 a0 b1 K w := by kernel_rfl
theorem call60 (a0 : Sl) (b1 : Sl) (K : Value → World → Prop) (w : World) (h : B60 a0 b1 K w) : Gets Tryz.prog 60 #[.slice a0.a a0.len a0.cap, .slice b1.a b1.len b1.cap] w K :=
  calls_of (sk := sk60) cl_ok mixed Tryz.func60 ok60 (args := [.slice a0.a a0.len a0.cap, .slice b1.a b1.len b1.cap]) (Nat.le_of_ble_eq_true (by kernel_rfl)) (by rw [eq60]; exact h)
def B88 (n0 : Int) (K : Value → World → Prop) (w : World) : Prop :=
  ∃ (I : Int → Sl → World → Prop) (μ : Int → Sl → World → Nat), (I n0 ⟨none, 0, 0⟩ w) ∧ ∀ (z : Env) (n0_1 : Int) (out3 : Sl) (w_1 : World), I n0_1 out3 w_1 →
  Br (decide (n0_1 > 0))
   (New (.cells #[.int .u8 (IntKind.u8.wrap (n0_1.tmod 256))] 5 (0, 0)) (fun b_t9 w_2 =>
    ∃ w_3 : World, ∃ t11 : Sl, ((Builtin.append_ #[42, 42] 42 #[.slice ((some ⟨b_t9, 0, none⟩)) 1 1, .slice out3.a out3.len out3.cap]).run Tryz.prog w_2 = .ok (.slice t11.a t11.len t11.cap) w_3) ∧
    (I (IntKind.u64.wrap (n0_1.tdiv 256)) t11 w_3) ∧ μ (IntKind.u64.wrap (n0_1.tdiv 256)) t11 w_3 < μ n0_1 out3 w_1) w_1)
   (New (.cells #[.int .u8 (IntKind.u8.wrap (↑out3.len : Int))] 5 (0, 0)) (fun b_t17 w_4 =>
    ∃ w_5 : World, ∃ t19 : Sl, ((Builtin.append_ #[42, 42] 42 #[.slice ((some ⟨b_t17, 0, none⟩)) 1 1, .slice out3.a out3.len out3.cap]).run Tryz.prog w_4 = .ok (.slice t19.a t19.len t19.cap) w_5) ∧
    K (.slice t19.a t19.len t19.cap) w_5) w_1)
def sk88 : Sk := (.seq .leaf (.seq .leaf (.seq (.block (.loop [0, 3] [(.int .u64), .sl] [0, 3, 4, 5, 6, 7, 8, 9, 10, 11, 12, 13] .leaf)) .leaf)))
theorem ok88 : fnOk Tryz.prog Tryz.f88.ntmps Tryz.f88 sk88 = true := by kernel_rfl
theorem eq88 (n0 : Int) (K : Value → World → Prop) (w : World) : fnF Tryz.prog cl Tryz.f88 sk88 [.int .u64 n0] K w = B88 n0 K w := by kernel_rfl
theorem call88 (n0 : Int) (K : Value → World → Prop) (w : World) (h : B88 n0 K w) : Gets Tryz.prog 88 #[.int .u64 n0] w K :=
  calls_of (sk := sk88) cl_ok mixed Tryz.func88 ok88 (args := [.int .u64 n0]) (Nat.le_of_ble_eq_true (by kernel_rfl)) (by rw [eq88]; exact h)
def B148 (r0 : Option Addr) (K : Value → World → Prop) (w : World) : Prop :=
  ∃ (J : World → Prop), (Drw w fun S w_1 =>
    NilP r0 fun a_t10 =>
    ∃ t12 : Bool, (At S ⟨a_t10.block, a_t10.off + 2, none⟩ [.bool t12]) ∧
    Br t12
     (K (.tuple #[.int .u64 0, .bool false, .int .i64 0]) w_1)
     (NilP r0 fun a_t15 =>
      ∃ t17 : Int, (At S ⟨a_t15.block, a_t15.off + 1, none⟩ [.int .i64 t17]) ∧
      NilP r0 fun a_t19 =>
      ∃ t21 : Sl, (At S (Addr.add a_t19 0) [.slice t21.a t21.len t21.cap]) ∧
      Br (decide (t17 ≥ (↑t21.len : Int)))
       (K (.tuple #[.int .u64 0, .bool false, .int .i64 0]) w_1)
       (J  w_1))) ∧
  ∀ (z : Env)  (w_2 : World), J  w_2 →
  Drw w_2 fun S_1 w_3 =>
  NilP r0 fun a_t26 =>
  ∃ t28 : Sl, (At S_1 (Addr.add a_t26 0) [.slice t28.a t28.len t28.cap]) ∧
  NilP r0 fun a_t30 =>
  ∃ t32 : Int, (At S_1 ⟨a_t30.block, a_t30.off + 1, none⟩ [.int .i64 t32]) ∧
  Rng t32 t28.len (NilP t28.a fun a_t33 =>
  ∃ t34 : Int, (At S_1 (Addr.add a_t33 t32.toNat) [.int .u8 t34]) ∧
  ∃ (J_1 : Int → World → Prop), (Br (decide (IntKind.i64.wrap t34 ≥ 16))
     (J_1 (IntKind.i64.wrap (IntKind.i64.wrap t34 - 16)) w_3)
     (J_1 (IntKind.i64.wrap t34) w_3)) ∧
  ∀ (z_1 : Env) (k5 : Int) (w_4 : World), J_1 k5 w_4 →
  ∃ (J_2 : World → Prop), (Drw w_4 fun S_2 w_5 =>
    Br (decide (k5 > 8))
     (K (.tuple #[.int .u64 0, .bool false, .int .i64 0]) w_5)
     (NilP r0 fun a_t45 =>
      ∃ t47 : Int, (At S_2 ⟨a_t45.block, a_t45.off + 1, none⟩ [.int .i64 t47]) ∧
      NilP r0 fun a_t52 =>
      ∃ t54 : Sl, (At S_2 (Addr.add a_t52 0) [.slice t54.a t54.len t54.cap]) ∧
      Br (decide (IntKind.i64.wrap (IntKind.i64.wrap (t47 + 1) + k5) > (↑t54.len : Int)))
       (K (.tuple #[.int .u64 0, .bool false, .int .i64 0]) w_5)
       (Br (decide (IntKind.i64.wrap t34 ≥ 16))
         (Br (k5 == 0)
           (K (.tuple #[.int .u64 0, .bool false, .int .i64 0]) w_5)
           (Br (decide (k5 > 0))
             (NilP r0 fun a_t70 =>
              ∃ t72 : Sl, (At S_2 (Addr.add a_t70 0) [.slice t72.a t72.len t72.cap]) ∧
              NilP r0 fun a_t74 =>
              ∃ t76 : Int, (At S_2 ⟨a_t74.block, a_t74.off + 1, none⟩ [.int .i64 t76]) ∧
              Rng (IntKind.i64.wrap (t76 + 1)) t72.len (NilP t72.a fun a_t78 =>
              ∃ t79 : Int, (At S_2 (Addr.add a_t78 ((IntKind.i64.wrap (t76 + 1)).toNat)) [.int .u8 t79]) ∧
              Br (t79 == 0)
               (K (.tuple #[.int .u64 0, .bool false, .int .i64 0]) w_5)
               (J_2  w_5)))
             (J_2  w_5)))
         (Br (decide (k5 > 0))
           (NilP r0 fun a_t70_1 =>
            ∃ t72_1 : Sl, (At S_2 (Addr.add a_t70_1 0) [.slice t72_1.a t72_1.len t72_1.cap]) ∧
            NilP r0 fun a_t74_1 =>
            ∃ t76_1 : Int, (At S_2 ⟨a_t74_1.block, a_t74_1.off + 1, none⟩ [.int .i64 t76_1]) ∧
            Rng (IntKind.i64.wrap (t76_1 + 1)) t72_1.len (NilP t72_1.a fun a_t78_1 =>
            ∃ t79_1 : Int, (At S_2 (Addr.add a_t78_1 ((IntKind.i64.wrap (t76_1 + 1)).toNat)) [.int .u8 t79_1]) ∧
            Br (t79_1 == 0)
             (K (.tuple #[.int .u64 0, .bool false, .int .i64 0]) w_5)
             (J_2  w_5)))
           (J_2  w_5))))) ∧
  ∀ (z_2 : Env)  (w_6 : World), J_2  w_6 →
  ∃ (I : Int → Int → World → Prop) (μ : Int → Int → World → Nat), (I 0 0 w_6) ∧ ∀ (z_3 : Env) (n7 : Int) (i8 : Int) (w_7 : World), I n7 i8 w_7 →
  Br (decide (i8 < k5))
   (Drw w_7 fun S_3 w_8 =>
    NilP r0 fun a_t91 =>
    ∃ t93 : Sl, (At S_3 (Addr.add a_t91 0) [.slice t93.a t93.len t93.cap]) ∧
    NilP r0 fun a_t95 =>
    ∃ t97 : Int, (At S_3 ⟨a_t95.block, a_t95.off + 1, none⟩ [.int .i64 t97]) ∧
    Rng (IntKind.i64.wrap (IntKind.i64.wrap (t97 + 1) + i8)) t93.len (NilP t93.a fun a_t101 =>
    ∃ t102 : Int, (At S_3 (Addr.add a_t101 ((IntKind.i64.wrap (IntKind.i64.wrap (t97 + 1) + i8)).toNat)) [.int .u8 t102]) ∧
    (I (IntKind.u64.wrap (IntKind.u64.wrap (n7 * 256) + IntKind.u64.wrap t102)) (IntKind.i64.wrap (i8 + 1)) w_8) ∧ μ (IntKind.u64.wrap (IntKind.u64.wrap (n7 * 256) + IntKind.u64.wrap t102)) (IntKind.i64.wrap (i8 + 1)) w_8 < μ n7 i8 w_7))
   (K (.tuple #[.int .u64 n7, .bool (decide (IntKind.i64.wrap t34 ≥ 16)), .int .i64 (IntKind.i64.wrap (k5 + 1))]) w_7))
def sk148 : Sk := (.seq .leaf (.cut [] [] [2, 3, 4, 9, 10, 11, 12, 13, 14, 15, 16, 17, 18, 19, 20, 21, 22, 23, 24] .leaf (.seq .leaf (.seq .leaf (.cut [5] [(.int .i64)] [5, 38, 39, 40] .leaf (.cut [] [] [2, 3, 4, 41, 42, 43, 44, 45, 46, 47, 48, 49, 50, 51, 52, 53, 54, 55, 56, 57, 58, 59, 60, 61, 62, 63, 64, 65, 66, 67, 68, 69, 70, 71, 72, 73, 74, 75, 76, 77, 78, 79, 80, 81, 82] .leaf (.seq .leaf (.seq (.seq .leaf (.block (.loop [7, 8] [(.int .u64), (.int .i64)] [7, 8, 83, 84, 85, 86, 87, 88, 89, 90, 91, 92, 93, 94, 95, 96, 97, 98, 99, 100, 101, 102, 103, 104] .leaf))) .leaf))))))))
theorem ok148 : fnOk Tryz.prog Tryz.f148.ntmps Tryz.f148 sk148 = true := by kernel_rfl
theorem eq148 (r0 : Option Addr) (K : Value → World → Prop) (w : World) : fnF Tryz.prog cl Tryz.f148 sk148 [.pointer r0] K w = B148 r0 K w := by kernel_rfl
theorem call148 (r0 : Option Addr) (K : Value → World → Prop) (w : World) (h : B148 r0 K w) : Gets Tryz.prog 148 #[.pointer r0] w K :=
  calls_of (sk := sk148) cl_ok mixed Tryz.func148 ok148 (args := [.pointer r0]) (Nat.le_of_ble_eq_true (by kernel_rfl)) (by rw [eq148]; exact h)
def B84 (r0 : Option Addr) (most1 : Int) (K : Value → World → Prop) (w : World) : Prop :=
  Calls Tryz.prog 148 #[.pointer r0] w fun e w_1 =>
  ∃ t10 : Int, ∃ t10_1 : Bool, ∃ t10_2 : Int, (e = .returned (.tuple #[.int .u64 t10, .bool t10_1, .int .i64 t10_2])) ∧
  ∃ (J : World → Prop), (Br (t10_2 == 0)
     (NilP r0 fun a_t25 =>
      ∃ w_2 : World, ((Instr.storeAt 4 (.pointer ((some ⟨a_t25.block, a_t25.off + 2, none⟩))) (.bool true)).run Tryz.prog w_1 = .ok () w_2) ∧
      K (.int .u64 0) w_2)
     (Br t10_1
       (NilP r0 fun a_t25_1 =>
        ∃ w_3 : World, ((Instr.storeAt 4 (.pointer ((some ⟨a_t25_1.block, a_t25_1.off + 2, none⟩))) (.bool true)).run Tryz.prog w_1 = .ok () w_3) ∧
        K (.int .u64 0) w_3)
       (Br (decide (t10 > most1))
         (NilP r0 fun a_t25_2 =>
          ∃ w_4 : World, ((Instr.storeAt 4 (.pointer ((some ⟨a_t25_2.block, a_t25_2.off + 2, none⟩))) (.bool true)).run Tryz.prog w_1 = .ok () w_4) ∧
          K (.int .u64 0) w_4)
         (J  w_1)))) ∧
  ∀ (z : Env)  (w_5 : World), J  w_5 →
  NilP r0 fun a_t29 =>
  ∃ t31 : Int, (At (fun w' => w' = w_5) ⟨a_t29.block, a_t29.off + 1, none⟩ [.int .i64 t31]) ∧
  NilP r0 fun a_t34 =>
  ∃ w_6 : World, ((Instr.storeAt 3 (.pointer ((some ⟨a_t34.block, a_t34.off + 1, none⟩))) (.int .i64 (IntKind.i64.wrap (t31 + t10_2)))).run Tryz.prog w_5 = .ok () w_6) ∧
  K (.int .u64 t10) w_6
def sk84 : Sk := (.seq .leaf (.seq .leaf (.cut [] [] [4, 14, 15, 16, 17, 18, 19, 20, 21, 22, 23, 24, 25, 26] .leaf .leaf)))
theorem ok84 : fnOk Tryz.prog Tryz.f84.ntmps Tryz.f84 sk84 = true := by kernel_rfl
theorem eq84 (r0 : Option Addr) (most1 : Int) (K : Value → World → Prop) (w : World) : fnF Tryz.prog cl Tryz.f84 sk84 [.pointer r0, .int .u64 most1] K w = B84 r0 most1 K w := by kernel_rfl
theorem call84 (r0 : Option Addr) (most1 : Int) (K : Value → World → Prop) (w : World) (h : B84 r0 most1 K w) : Gets Tryz.prog 84 #[.pointer r0, .int .u64 most1] w K :=
  calls_of (sk := sk84) cl_ok mixed Tryz.func84 ok84 (args := [.pointer r0, .int .u64 most1]) (Nat.le_of_ble_eq_true (by kernel_rfl)) (by rw [eq84]; exact h)
def B86 (r0 : Option Addr) (K : Value → World → Prop) (w : World) : Prop :=
  Drw w fun S w_1 =>
  NilP r0 fun a_t4 =>
  ∃ t6 : Bool, (At S ⟨a_t4.block, a_t4.off + 2, none⟩ [.bool t6]) ∧
  Br (!t6)
   (NilP r0 fun a_t10 =>
    ∃ t12 : Int, (At S ⟨a_t10.block, a_t10.off + 1, none⟩ [.int .i64 t12]) ∧
    NilP r0 fun a_t14 =>
    ∃ t16 : Sl, (At S (Addr.add a_t14 0) [.slice t16.a t16.len t16.cap]) ∧
    K (.bool (t12 == (↑t16.len : Int))) w_1)
   (K (.bool false) w_1)
def sk86 : Sk := .leaf
theorem ok86 : fnOk Tryz.prog Tryz.f86.ntmps Tryz.f86 sk86 = true := by kernel_rfl
theorem eq86 (r0 : Option Addr) (K : Value → World → Prop) (w : World) : fnF Tryz.prog cl Tryz.f86 sk86 [.pointer r0] K w = B86 r0 K w := by kernel_rfl
theorem call86 (r0 : Option Addr) (K : Value → World → Prop) (w : World) (h : B86 r0 K w) : Gets Tryz.prog 86 #[.pointer r0] w K :=
  calls_of (sk := sk86) cl_ok mixed Tryz.func86 ok86 (args := [.pointer r0]) (Nat.le_of_ble_eq_true (by kernel_rfl)) (by rw [eq86]; exact h)
end Go.Proofs.YtfgbbckfikiomaaGreatDoor
/- The formulas of functions of this seat's translation, printed by a program of mine off the translation; each is proved equal to 'fnF' of the function's body, so it is enough for the call. No condition. -/
namespace Go.Proofs.YtfgbbckfikiomaaGreatDoor
open Go Go.VC
set_option linter.unusedVariables false
def B61 (a0 : Sl) (b1 : Sl) (K : Value → World → Prop) (w : World) : Prop :=
  Br ((↑a0.len : Int) != (↑b1.len : Int))
   (K (.bool false) w)
   (∃ (I : Int → World → Prop) (μ : Int → World → Nat), (I 0 w) ∧ ∀ (z : Env) (i5 : Int) (w_1 : World), I i5 w_1 →
    Br (decide (i5 < (↑a0.len : Int)))
     (Drw w_1 fun S w_2 =>
      Rng i5 a0.len (NilP a0.a fun a_t19 =>
      ∃ t20 : ByteArray, (At S (Addr.add a_t19 i5.toNat) [.string t20]) ∧
      Rng i5 b1.len (NilP b1.a fun a_t23 =>
      ∃ t24 : ByteArray, (At S (Addr.add a_t23 i5.toNat) [.string t24]) ∧
      Br (!t20.toList == t24.toList)
       (K (.bool false) w_2)
       ((I (IntKind.i64.wrap (i5 + 1)) w_2) ∧ μ (IntKind.i64.wrap (i5 + 1)) w_2 < μ i5 w_1))))
     (K (.bool true) w_1))
def sk61 : Sk := (.seq .leaf (.seq .leaf (.seq (.seq .leaf (.block (.loop [5] [(.int .i64)] [4, 5, 11, 12, 13, 14, 15, 16, 17, 18, 19, 20, 21, 22, 23, 24, 25] .leaf))) .leaf)))
theorem ok61 : fnOk Tryz.prog Tryz.f61.ntmps Tryz.f61 sk61 = true := by kernel_rfl
theorem eq61 (a0 : Sl) (b1 : Sl) (K : Value → World → Prop) (w : World) : fnF Tryz.prog cl Tryz.f61 sk61 [.slice a0.a a0.len a0.cap, .slice b1.a b1.len b1.cap] K w = B61 a0 b1 K w := by kernel_rfl
theorem call61 (a0 : Sl) (b1 : Sl) (K : Value → World → Prop) (w : World) (h : B61 a0 b1 K w) : Gets Tryz.prog 61 #[.slice a0.a a0.len a0.cap, .slice b1.a b1.len b1.cap] w K :=
  calls_of (sk := sk61) cl_ok mixed Tryz.func61 ok61 (args := [.slice a0.a a0.len a0.cap, .slice b1.a b1.len b1.cap]) (Nat.le_of_ble_eq_true (by kernel_rfl)) (by rw [eq61]; exact h)
end Go.Proofs.YtfgbbckfikiomaaGreatDoor
/- The formulas of functions of this seat's translation, printed by a program of mine off the translation; each is proved equal to 'fnF' of the function's body, so it is enough for the call. No condition. -/
namespace Go.Proofs.YtfgbbckfikiomaaGreatDoor
open Go Go.VC
set_option linter.unusedVariables false
def B72 (b0 : Sl) (K : Value → World → Prop) (w : World) : Prop :=
  Calls Tryz.prog 88 #[.int .u64 (IntKind.u64.wrap (↑b0.len : Int))] w fun e w_1 =>
  ∃ t6 : Sl, (e = .returned (.slice t6.a t6.len t6.cap)) ∧
  ∃ w_2 : World, ∃ t8 : Sl, ((Builtin.append_ #[42, 42] 42 #[.slice t6.a t6.len t6.cap, .slice b0.a b0.len b0.cap]).run Tryz.prog w_1 = .ok (.slice t8.a t8.len t8.cap) w_2) ∧
  K (.slice t8.a t8.len t8.cap) w_2
def sk72 : Sk := .leaf
theorem ok72 : fnOk Tryz.prog Tryz.f72.ntmps Tryz.f72 sk72 = true := by kernel_rfl
theorem eq72 (b0 : Sl) (K : Value → World → Prop) (w : World) : fnF Tryz.prog cl Tryz.f72 sk72 [.slice b0.a b0.len b0.cap] K w = B72 b0 K w := by kernel_rfl
theorem call72 (b0 : Sl) (K : Value → World → Prop) (w : World) (h : B72 b0 K w) : Gets Tryz.prog 72 #[.slice b0.a b0.len b0.cap] w K :=
  calls_of (sk := sk72) cl_ok mixed Tryz.func72 ok72 (args := [.slice b0.a b0.len b0.cap]) (Nat.le_of_ble_eq_true (by kernel_rfl)) (by rw [eq72]; exact h)
def B85 (r0 : Option Addr) (most1 : Int) (K : Value → World → Prop) (w : World) : Prop :=
  Calls Tryz.prog 148 #[.pointer r0] w fun e w_1 =>
  ∃ t11 : Int, ∃ t11_1 : Bool, ∃ t11_2 : Int, (e = .returned (.tuple #[.int .u64 t11, .bool t11_1, .int .i64 t11_2])) ∧
  ∃ (J : World → Prop), (Drw w_1 fun S w_2 =>
    Br (t11_2 == 0)
     (NilP r0 fun a_t48 =>
      ∃ w_3 : World, ((Instr.storeAt 4 (.pointer ((some ⟨a_t48.block, a_t48.off + 2, none⟩))) (.bool true)).run Tryz.prog w_2 = .ok () w_3) ∧
      K (.slice none 0 0) w_3)
     (Br t11_1
       (NilP r0 fun a_t48_1 =>
        ∃ w_4 : World, ((Instr.storeAt 4 (.pointer ((some ⟨a_t48_1.block, a_t48_1.off + 2, none⟩))) (.bool true)).run Tryz.prog w_2 = .ok () w_4) ∧
        K (.slice none 0 0) w_4)
       (Br (decide (most1 < 0))
         (NilP r0 fun a_t48_2 =>
          ∃ w_5 : World, ((Instr.storeAt 4 (.pointer ((some ⟨a_t48_2.block, a_t48_2.off + 2, none⟩))) (.bool true)).run Tryz.prog w_2 = .ok () w_5) ∧
          K (.slice none 0 0) w_5)
         (Br (decide (t11 > IntKind.u64.wrap most1))
           (NilP r0 fun a_t48_3 =>
            ∃ w_6 : World, ((Instr.storeAt 4 (.pointer ((some ⟨a_t48_3.block, a_t48_3.off + 2, none⟩))) (.bool true)).run Tryz.prog w_2 = .ok () w_6) ∧
            K (.slice none 0 0) w_6)
           (NilP r0 fun a_t33 =>
            ∃ t35 : Sl, (At S (Addr.add a_t33 0) [.slice t35.a t35.len t35.cap]) ∧
            NilP r0 fun a_t38 =>
            ∃ t40 : Int, (At S ⟨a_t38.block, a_t38.off + 1, none⟩ [.int .i64 t40]) ∧
            Br (decide (t11 > IntKind.u64.wrap (IntKind.i64.wrap (IntKind.i64.wrap ((↑t35.len : Int) - t40) - t11_2))))
             (NilP r0 fun a_t48_4 =>
              ∃ w_7 : World, ((Instr.storeAt 4 (.pointer ((some ⟨a_t48_4.block, a_t48_4.off + 2, none⟩))) (.bool true)).run Tryz.prog w_2 = .ok () w_7) ∧
              K (.slice none 0 0) w_7)
             (J  w_2)))))) ∧
  ∀ (z : Env)  (w_8 : World), J  w_8 →
  NilP r0 fun a_t51 =>
  ∃ t53 : Int, (At (fun w' => w' = w_8) ⟨a_t51.block, a_t51.off + 1, none⟩ [.int .i64 t53]) ∧
  NilP r0 fun a_t61 =>
  ∃ w_9 : World, ((Instr.storeAt 3 (.pointer ((some ⟨a_t61.block, a_t61.off + 1, none⟩))) (.int .i64 (IntKind.i64.wrap (IntKind.i64.wrap (t53 + t11_2) + IntKind.i64.wrap t11)))).run Tryz.prog w_8 = .ok () w_9) ∧
  Drw w_9 fun S_1 w_10 =>
  NilP r0 fun a_t65 =>
  ∃ t67 : Sl, (At S_1 (Addr.add a_t65 0) [.slice t67.a t67.len t67.cap]) ∧
  NilP r0 fun a_t70 =>
  ∃ t72 : Int, (At S_1 ⟨a_t70.block, a_t70.off + 1, none⟩ [.int .i64 t72]) ∧
  ((0 : Int) ≤ t72) ∧
  ((t72 : Int) ≤ (↑t67.cap : Int)) ∧
  ((0 : Int) ≤ IntKind.i64.wrap (t53 + t11_2)) ∧
  ((IntKind.i64.wrap (t53 + t11_2) : Int) ≤ (↑t72.toNat : Int)) ∧
  New (.cells #[] 5 (0, 0)) (fun b_t63 w_11 =>
  (S_1 w_11) ∧
  ∃ w_12 : World, ∃ t74 : Sl, ((Builtin.append_ #[42, 42] 42 #[.slice ((some ⟨b_t63, 0, none⟩)) 0 0, .slice (cutA t67.a (IntKind.i64.wrap (t53 + t11_2)).toNat t67.cap 1) (t72.toNat - (IntKind.i64.wrap (t53 + t11_2)).toNat) (t67.cap - (IntKind.i64.wrap (t53 + t11_2)).toNat)]).run Tryz.prog w_11 = .ok (.slice t74.a t74.len t74.cap) w_12) ∧
  (S_1 w_12) ∧
  K (.slice t74.a t74.len t74.cap) w_12) w_10
def sk85 : Sk := (.seq .leaf (.seq .leaf (.cut [] [] [4, 15, 16, 17, 18, 19, 20, 21, 22, 23, 24, 25, 26, 27, 28, 29, 30, 31, 32, 33, 34, 35, 36, 37, 38, 39, 40, 41, 42, 43, 44, 45, 46, 47, 48, 49] .leaf .leaf)))
theorem ok85 : fnOk Tryz.prog Tryz.f85.ntmps Tryz.f85 sk85 = true := by kernel_rfl
theorem eq85 (r0 : Option Addr) (most1 : Int) (K : Value → World → Prop) (w : World) : fnF Tryz.prog cl Tryz.f85 sk85 [.pointer r0, .int .i64 most1] K w = B85 r0 most1 K w := by kernel_rfl
theorem call85 (r0 : Option Addr) (most1 : Int) (K : Value → World → Prop) (w : World) (h : B85 r0 most1 K w) : Gets Tryz.prog 85 #[.pointer r0, .int .i64 most1] w K :=
  calls_of (sk := sk85) cl_ok mixed Tryz.func85 ok85 (args := [.pointer r0, .int .i64 most1]) (Nat.le_of_ble_eq_true (by kernel_rfl)) (by rw [eq85]; exact h)
end Go.Proofs.YtfgbbckfikiomaaGreatDoor

/- Packages seat and reference 13: layouts. Condition: none. -/
namespace Go.Proofs.YtfgbbckfikiomaaGreatDoor
set_option linter.unusedVariables false
open Go Go.VC
variable {R : Cx} {Hs Rest : List HP} {w : World}
theorem sum_app : ∀ a b : List Int, (a ++ b).sum = a.sum + b.sum
  | [], b => by simp
  | x :: a, b => by simp only [List.cons_append, List.sum_cons, sum_app a b]; omega
theorem sum_take {g : List Int} {j : Nat} (h : j < g.length) : (g.take (j + 1)).sum = (g.take j).sum + g[j] := by
  rw [List.take_add_one, List.getElem?_eq_getElem h, sum_app]
  simp
theorem sum_bd {g : List Int} (h : ∀ x ∈ g, 0 ≤ x ∧ x ≤ 10) : 0 ≤ g.sum ∧ g.sum ≤ 10 * g.length := by
  induction g with
  | nil => simp
  | cons a g ih =>
    have := ih fun x hx => h x (List.mem_cons_of_mem _ hx)
    have := h a List.mem_cons_self
    simp only [List.sum_cons, List.length_cons]
    omega
def grpsOk (g : List Int) : Bool := g.all fun x => decide (1 ≤ x ∧ x ≤ 10)
def layOk (n : Int) (g : List Int) : Bool := decide (1 ≤ n ∧ n ≤ 60 ∧ 1 ≤ g.length ∧ g.length ≤ 4) && (grpsOk g && decide (g.sum ≤ 10))
def layN (n : Int) (g : List Int) : Int := if layOk n g then n * g.sum else 0
theorem layOk_iff {n : Int} {g : List Int} : layOk n g = true ↔ (1 ≤ n ∧ n ≤ 60 ∧ 1 ≤ g.length ∧ g.length ≤ 4) ∧ (∀ x ∈ g, 1 ≤ x ∧ x ≤ 10) ∧ g.sum ≤ 10 := by
  simp [layOk, grpsOk]
theorem layN_ok {n : Int} {g : List Int} (h : layOk n g = true) : layN n g = n * g.sum := by unfold layN; rw [if_pos h]
theorem mul_bd {a b : Int} (h0 : 0 ≤ a) (h1 : a ≤ 60) (h2 : 0 ≤ b) (h3 : b ≤ 10) : 0 ≤ a * b ∧ a * b ≤ 600 :=
  ⟨Int.mul_nonneg h0 h2, by have := Int.mul_le_mul h1 h3 h2 (by omega); omega⟩
theorem layN_bd (n : Int) (g : List Int) : 0 ≤ layN n g ∧ layN n g ≤ 600 := by
  unfold layN
  split
  · rename_i h
    obtain ⟨h1, h2, h3⟩ := layOk_iff.1 h
    have := sum_bd (fun x hx => by have := h2 x hx; omega) (g := g)
    exact mul_bd (by omega) (by omega) (by omega) (by omega)
  · omega
abbrev layC (n : Int) (s : Sl) : Obj := .cells [.int .i64 n, .slice s.a s.len s.cap].toArray 35 (0, 0)
theorem across_spec {n : Int} {s : Sl} {g : List Int} (hs : RoI R s g) (hg : ∀ x ∈ g, 0 ≤ x ∧ x ≤ 10) (hl : g.length ≤ 4) (hw : Sat R Hs w) :
    Gets Tryz.prog 217 #[.agg #[.int .i64 n, .slice s.a s.len s.cap]] w fun v w' => v = .int .i64 g.sum ∧ Sat R Hs w' := by
  have hlen := hs.len
  apply call217
  refine new_rule hw fun p w hw => ?_
  have hw : Sat R (pts p (layC n s) :: Hs) w := hw
  refine ⟨s, At.own (eqS hw) (by exact ⟨rfl, trivial⟩), ?_⟩
  refine ⟨fun m i w => ∃ j : Nat, i = j ∧ j ≤ g.length ∧ m = (g.take j).sum ∧ Sat R (pts p (layC n s) :: Hs) w, fun _ i _ => g.length - i.toNat, ⟨0, rfl, by omega, by simp, hw⟩, ?_⟩
  clear hw
  rintro _ _ _ w ⟨j, rfl, hj, rfl, hw⟩
  refine Br.d (fun h => ?_) (fun h => ?_)
  · have hj2 : j < g.length := by omega
    refine hs.idx (eqS hw) hj2 ?_
    have hb := sum_bd (fun x hx => hg x (List.mem_of_mem_take hx)) (g := g.take j)
    have hb2 : (g.take j).length ≤ 4 := by rw [List.length_take]; omega
    have hx := hg g[j] (List.getElem_mem _)
    rw [wrap64 (x := (j : Int) + 1) (by omega) (by omega), wrap64 (by omega) (by omega)]
    exact ⟨⟨j + 1, by omega, by omega, (sum_take hj2).symm, hw⟩, by dsimp only; omega⟩
  · rw [List.take_of_length_le (by omega)]
    exact ⟨rfl, hw.drop⟩
theorem idxF_spec {s : Sl} {l : List Int} {f : Value} {p : Int → Bool} (hs : RoI R s l) (hf : ∀ x w, Sat R Hs w → CalW Tryz.prog cl f [.int .i64 x] w fun e w' => e = .returned (.bool (p x)) ∧ Sat R Hs w') (hw : Sat R Hs w) :
    Gets Tryz.prog 257 #[.slice s.a s.len s.cap, f] w fun v w' => (∃ n : Int, v = .int .i64 n ∧ (l.any p = true ↔ 0 ≤ n)) ∧ Sat R Hs w' := by
  have hlen := hs.len
  have hbd := hs.bound
  apply call257
  refine ⟨fun i w => ∃ j : Nat, i = j ∧ j ≤ l.length ∧ (l.take j).any p = false ∧ Sat R Hs w, fun i _ => l.length - i.toNat, ⟨0, rfl, by omega, by simp, hw⟩, ?_⟩
  clear hw
  rintro _ _ w ⟨j, rfl, hj, hn, hw⟩
  refine Br.d (fun h => ?_) (fun h => ?_)
  · have hj2 : j < l.length := by omega
    refine hs.idx (eqS hw) hj2 ?_
    refine (hf l[j] _ hw).mono ?_
    rintro _ w ⟨rfl, hw⟩
    refine ⟨_, rfl, Br.mk (fun h => ⟨⟨j, rfl, ⟨fun _ => by omega, fun _ => List.any_eq_true.2 ⟨_, List.getElem_mem _, h⟩⟩⟩, hw⟩) (fun h => ?_)⟩
    rw [wrap64 (by omega) (by omega)]
    refine ⟨⟨j + 1, by omega, by omega, ?_, hw⟩, by dsimp only; omega⟩
    rw [List.take_add_one, List.getElem?_eq_getElem hj2, List.any_append, hn]
    simp [h]
  · refine ⟨⟨-1, rfl, ⟨fun h2 => ?_, fun h2 => by omega⟩⟩, hw⟩
    rw [List.take_of_length_le (by omega)] at hn
    rw [hn] at h2; cases h2
theorem contF_spec {s : Sl} {l : List Int} {f : Value} {p : Int → Bool} (hs : RoI R s l) (hf : ∀ x w, Sat R Hs w → CalW Tryz.prog cl f [.int .i64 x] w fun e w' => e = .returned (.bool (p x)) ∧ Sat R Hs w') (hw : Sat R Hs w) :
    Gets Tryz.prog 216 #[.slice s.a s.len s.cap, f] w fun v w' => v = .bool (l.any p) ∧ Sat R Hs w' := by
  apply call216
  refine (idxF_spec hs hf hw).use ?_
  rintro _ w ⟨⟨n, rfl, h⟩, hw⟩
  refine ⟨n, rfl, ?_, hw⟩
  congr 1
  rw [Bool.eq_iff_iff, decide_eq_true_iff]
  exact h.symm
theorem odd_spec {g : Int} (hw : Sat R Hs w) : Gets Tryz.prog 215 #[.int .i64 g] w fun v w' => v = .bool (!decide (1 ≤ g ∧ g ≤ 10)) ∧ Sat R Hs w' := by
  apply call215
  refine Br.d (fun h => ⟨?_, hw⟩) (fun h => ⟨?_, hw⟩)
  · rw [decide_eq_false (by omega)]; rfl
  · congr 1
    rw [← decide_not, decide_eq_decide]; omega
theorem layOk_no {n : Int} {g : List Int} (h : ¬ ((1 ≤ n ∧ n ≤ 60 ∧ 1 ≤ g.length ∧ g.length ≤ 4) ∧ (∀ x ∈ g, 1 ≤ x ∧ x ≤ 10) ∧ g.sum ≤ 10)) : layOk n g = false := by
  rw [← Bool.not_eq_true, layOk_iff]; exact h
theorem right_spec {n : Int} {s : Sl} {g : List Int} (hs : RoI R s g) (hw : Sat R Hs w) :
    Gets Tryz.prog 160 #[.agg #[.int .i64 n, .slice s.a s.len s.cap]] w fun v w' => v = .bool (layOk n g) ∧ Sat R Hs w' := by
  have hlen := hs.len
  apply call160
  refine new_rule hw fun p w hw => ?_
  have hw : Sat R (pts p (layC n s) :: Hs) w := hw
  refine ⟨n, At.own (eqS hw) (by exact ⟨rfl, trivial⟩), Br.d (fun h1 => ⟨by rw [layOk_no (fun h => by omega)], hw.drop⟩) (fun h1 => ?_)⟩
  refine ⟨n, At.own (eqS hw) (by exact ⟨rfl, trivial⟩), Br.d (fun h2 => ⟨by rw [layOk_no (fun h => by omega)], hw.drop⟩) (fun h2 => ?_)⟩
  refine ⟨s, At.own (eqS hw) (by exact ⟨rfl, trivial⟩), Br.d (fun h3 => ⟨by rw [layOk_no (fun h => by omega)], hw.drop⟩) (fun h3 => ?_)⟩
  refine ⟨s, At.own (eqS hw) (by exact ⟨rfl, trivial⟩), Br.d (fun h4 => ⟨by rw [layOk_no (fun h => by omega)], hw.drop⟩) (fun h4 => ?_)⟩
  refine ⟨s, At.own (eqS hw) (by exact ⟨rfl, trivial⟩), ?_⟩
  refine (contF_spec (p := fun x => !decide (1 ≤ x ∧ x ≤ 10)) hs (fun x w hw => CalW.mk (by kernel_rfl) ((odd_spec hw).use fun v w' h => ⟨by rw [h.1], h.2⟩)) hw).use ?_
  rintro _ w ⟨rfl, hw⟩
  refine ⟨_, rfl, Br.mk (fun h5 => ⟨?_, hw.drop⟩) (fun h5 => ?_)⟩
  · rw [layOk_no (fun h => ?_)]
    obtain ⟨x, hx, hx2⟩ := List.any_eq_true.1 h5
    have := h.2.1 x hx
    rw [decide_eq_true this] at hx2; cases hx2
  have hg : ∀ x ∈ g, 1 ≤ x ∧ x ≤ 10 := fun x hx => by
    by_cases h : 1 ≤ x ∧ x ≤ 10
    · exact h
    · have : (g.any fun x => !decide (1 ≤ x ∧ x ≤ 10)) = true := List.any_eq_true.2 ⟨x, hx, by rw [decide_eq_false h]; rfl⟩
      rw [h5] at this; cases this
  refine ⟨n, s, At.own (eqS hw) (by exact ⟨rfl, rfl, trivial⟩), ?_⟩
  refine (across_spec hs (fun x hx => by have := hg x hx; omega) (by omega) hw).use ?_
  rintro _ w ⟨rfl, hw⟩
  refine ⟨_, rfl, ?_, hw.drop⟩
  congr 1
  rw [Bool.eq_iff_iff, decide_eq_true_iff, layOk_iff]
  exact ⟨fun h => ⟨⟨by omega, by omega, by omega, by omega⟩, hg, h⟩, fun h => h.2.2⟩
theorem count_spec {n : Int} {s : Sl} {g : List Int} (hs : RoI R s g) (hw : Sat R Hs w) :
    Gets Tryz.prog 162 #[.agg #[.int .i64 n, .slice s.a s.len s.cap]] w fun v w' => v = .int .i64 (layN n g) ∧ Sat R Hs w' := by
  apply call162
  refine new_rule hw fun p w hw => ?_
  have hw : Sat R (pts p (layC n s) :: Hs) w := hw
  refine ⟨n, s, At.own (eqS hw) (by exact ⟨rfl, rfl, trivial⟩), ?_⟩
  refine (right_spec hs hw).use ?_
  rintro _ w ⟨rfl, hw⟩
  refine ⟨_, rfl, Br.nb (fun h => ⟨?_, hw.drop⟩) (fun h => ?_)⟩
  · unfold layN; rw [h]; rfl
  obtain ⟨h1, h2, h3⟩ := layOk_iff.1 h
  refine drw_rule hw fun w hw => ?_
  refine ⟨n, At.own selfS (by exact ⟨rfl, trivial⟩), n, s, At.own selfS (by exact ⟨rfl, rfl, trivial⟩), ?_⟩
  refine (across_spec hs (fun x hx => by have := h2 x hx; omega) (by omega) hw).use ?_
  rintro _ w ⟨rfl, hw⟩
  have hb := layN_bd n g
  rw [layN_ok h] at hb ⊢
  refine ⟨_, rfl, hw, ?_, hw.drop⟩
  rw [wrap64 (by omega) (by omega)]
end Go.Proofs.YtfgbbckfikiomaaGreatDoor





/- SL, part 15: new rows of so many zeros; elements of any one cell. Condition: bounds on lengths. -/
namespace Go.VC
set_option linter.unusedVariables false
variable {P : Program} {R : Cx} {Hs Rest : List HP} {w : World} {s : Sl} {T : TypeId}
theorem make_rule {t : TypeId} {bytes n : Nat} {kl kc : IntKind} {z : Value} {K : Sl → World → Prop} (ht : P.underlying t = some (.slice T)) (hi : elB P T bytes = true) (hv : ∀ w, (zeroValue T).run P w = .ok z w) (h1 : z.cells = #[z])
    (hn : bytes * n ≤ 281474976710656) (h63 : n ≤ 9223372036854775807) (hw : Sat R Hs w) (k : ∀ s' w', Sat R (Own s' T (List.replicate n z) :: Hs) w' → K s' w') :
    ∃ w', ∃ t' : Sl, (Instr.makeSlice t (.int kl (n : Int)) (.int kc (n : Int))).run P w = .ok (.slice t'.a t'.len t'.cap) w' ∧ K t' w' := by
  obtain ⟨i, z', hi, hz, hs, hb, hc⟩ := elB_out hi
  have hzz : z' = z := by
    have := hv w
    simp [zeroValue, hi, hz, typeInfo] at this
    exact this
  subst hzz
  have hb' : (i.bytes : Int) * (n : Int) ≤ 281474976710656 := by
    rw [hb]
    have h : ((bytes * n : Nat) : Int) ≤ 281474976710656 := by omega
    rwa [Int.natCast_mul] at h
  have hr := run_make (P := P) w t T i z' ht hi hz kl kc n n (by omega) (Int.le_refl _) hb' (by omega)
  simp only [Int.toNat_natCast, hs, Nat.mul_one, h1] at hr
  refine ⟨_, ⟨some ⟨w.heap.size, 0, none⟩, n, n⟩, hr, k _ _ ?_⟩
  have e : madeCells #[z'] n = (List.replicate n z').toArray := by
    apply Array.ext
    · simp [size_madeCells]
    · intro j h1 h2
      simp [madeCells, Nat.mod_one]
  rw [e]
  exact own_lit (hw.alloc _) (by simp)
theorem Own.ix {kd : IntKind} {xs : List Int} {S : World → Prop} {Hs' : List HP} {i : Int} (hw : Sat R (Own s T (xs.map (Value.int kd)) :: Hs) w) (hS : ∀ w, S w → Sat R (Own s T (xs.map (Value.int kd)) :: Hs') w) (k : Nat) (hi : i = k) (hk : k < xs.length) {F : Int → Prop} (h : F xs[k]) :
    Rng i s.len (NilP s.a fun a => ∃ t : Int, (At S (a.add i.toNat) [.int kd t]) ∧ F t) := by
  subst hi; exact Own.idx hw hS hk h
end Go.VC
/- Seats side by side: packages seat and reference 13. Condition: none. -/
namespace Go.Proofs.YtfgbbckfikiomaaGreatDoor
set_option linter.unusedVariables false
open Go Go.VC
variable {R : Cx} {Hs Rest : List HP} {w : World}
theorem elI8 : El Tryz.prog 28 28 3 8 := ⟨Tryz.underlying28, ⟨_, Tryz.underlying28⟩, by kernel_rfl⟩
abbrev ints (l : List Nat) : List Value := (l.map fun (j : Nat) => (j : Int)).map (Value.int .i64)
end Go.Proofs.YtfgbbckfikiomaaGreatDoor
/- Seats side by side: reference 13. Condition: none. -/
namespace Go.Proofs.YtfgbbckfikiomaaGreatDoor
set_option linter.unusedVariables false
open Go Go.VC
variable {R : Cx} {Hs Rest : List HP} {w : World}
theorem _root_.Go.VC.Sat.imp {A B : HP} (h : ∀ m, A m → B m) (hw : Sat R (A :: Hs) w) : Sat R (B :: Hs) w := let ⟨m, a, b, c⟩ := hw; ⟨m, h m a, b, c⟩
end Go.Proofs.YtfgbbckfikiomaaGreatDoor
/- Classes and limits: package nest. Condition: none. -/
namespace Go.Proofs.YtfgbbckfikiomaaGreatDoor
set_option linter.unusedVariables false
open Go Go.VC
variable {R : Cx} {Hs Rest : List HP} {w : World}
def inR (x : Int) : Bool := decide (0 ≤ x ∧ x ≤ 10000)
def limOk (l : List Int) : Bool := decide (1 ≤ l.length ∧ l.length ≤ 8) && decide (∀ k, k < l.length → (0 ≤ l.getD k 0 ∧ l.getD k 0 ≤ 10000) ∧ (0 < k → l.getD k 0 ≤ l.getD (k - 1) 0))
def fromN (sold : List Int) (k : Nat) : Int := (sold.drop k).sum
def nestOk (lim sold : List Int) : Bool := limOk lim && (decide (sold.length = lim.length) && decide (∀ k, k < lim.length → (0 ≤ sold.getD k 0 ∧ sold.getD k 0 ≤ 10000) ∧ fromN sold k ≤ lim.getD k 0))
def mnF (x : Nat → Int) : Nat → Int
  | 0 => 10000
  | k + 1 => if x k < mnF x k then x k else mnF x k
def roomF (lim sold : List Int) (k : Nat) : Int := lim.getD k 0 - fromN sold k
def leftT (lim sold : List Int) (c : Int) : Int × Int := if nestOk lim sold = true ∧ 0 ≤ c ∧ c < lim.length then (mnF (roomF lim sold) (c.toNat + 1), 0) else (0, 1)
def sellT (lim sold : List Int) (c many : Int) : List Int × Int :=
  if (leftT lim sold c).2 ≠ 0 ∨ many < 1 ∨ many > 10000 then ([], 1) else if many > (leftT lim sold c).1 then ([], 3)
  else (sold.set c.toNat (sold.getD c.toNat 0 + many), 0)
def IsMn (x : Nat → Int) (a b : Nat) (L : Int) : Prop := L ≤ 10000 ∧ (∀ k, a ≤ k → k < b → L ≤ x k) ∧ (L = 10000 ∨ ∃ k, a ≤ k ∧ k < b ∧ L = x k)
theorem mnF_is (x : Nat → Int) : ∀ k, IsMn x 0 k (mnF x k)
  | 0 => ⟨by simp [mnF], fun k h0 h1 => by omega, .inl rfl⟩
  | k + 1 => by
    obtain ⟨h1, h2, h3⟩ := mnF_is x k
    unfold mnF
    split
    · exact ⟨by omega, fun j a b => by
        by_cases hj : j = k
        · rw [hj]; exact Int.le_refl _
        · have := h2 j a (by omega); omega, .inr ⟨k, by omega, by omega, rfl⟩⟩
    · refine ⟨h1, fun j a b => ?_, ?_⟩
      · by_cases hj : j = k
        · rw [hj]; omega
        · exact h2 j a (by omega)
      · rcases h3 with h3 | ⟨j, a, b, c⟩
        · exact .inl h3
        · exact .inr ⟨j, a, by omega, c⟩
theorem IsMn.eq {x : Nat → Int} {a b : Nat} {L L' : Int} (h : IsMn x a b L) (h' : IsMn x a b L') : L = L' := by
  obtain ⟨h1, h2, h3⟩ := h
  obtain ⟨h1', h2', h3'⟩ := h'
  have a1 : L ≤ L' := by
    rcases h3' with h | ⟨k, k1, k2, k3⟩
    · omega
    · rw [k3]; exact h2 k k1 k2
  have a2 : L' ≤ L := by
    rcases h3 with h | ⟨k, k1, k2, k3⟩
    · omega
    · rw [k3]; exact h2' k k1 k2
  omega
theorem IsMn.step {x : Nat → Int} {a b : Nat} {L : Int} (h : IsMn x (a + 1) b L) (hab : a < b) : IsMn x a b (if x a < L then x a else L) := by
  obtain ⟨h1, h2, h3⟩ := h
  split
  · exact ⟨by omega, fun k k1 k2 => by
      by_cases hk : k = a
      · rw [hk]; exact Int.le_refl _
      · have := h2 k (by omega) k2; omega, .inr ⟨a, by omega, hab, rfl⟩⟩
  · refine ⟨h1, fun k k1 k2 => ?_, ?_⟩
    · by_cases hk : k = a
      · rw [hk]; omega
      · exact h2 k (by omega) k2
    · rcases h3 with h | ⟨k, k1, k2, k3⟩
      · exact .inl h
      · exact .inr ⟨k, by omega, k2, k3⟩
theorem IsMn.skip {x : Nat → Int} {a b : Nat} {L : Int} (h : IsMn x (a + 1) b L) (hab : ¬ a < b) : IsMn x a b L := by
  obtain ⟨h1, h2, h3⟩ := h
  refine ⟨h1, fun k k1 k2 => by omega, ?_⟩
  rcases h3 with h | ⟨k, k1, k2, k3⟩
  · exact .inl h
  · omega
theorem fromN_step {sold : List Int} {k : Nat} (h : k < sold.length) : fromN sold k = sold[k] + fromN sold (k + 1) := by
  unfold fromN; rw [List.drop_eq_getElem_cons h, List.sum_cons]
theorem fromN_end {sold : List Int} {k : Nat} (h : sold.length ≤ k) : fromN sold k = 0 := by
  unfold fromN; rw [List.drop_eq_nil_of_le h]; rfl
theorem fromN_bd {sold : List Int} (h : ∀ x ∈ sold, 0 ≤ x ∧ x ≤ 10000) : ∀ k, 0 ≤ fromN sold k ∧ fromN sold k ≤ 10000 * (sold.length - k : Nat) := by
  intro k
  unfold fromN
  rw [← List.length_drop]
  have : ∀ x ∈ sold.drop k, 0 ≤ x ∧ x ≤ 10000 := fun x hx => h x (List.mem_of_mem_drop hx)
  generalize sold.drop k = l at *
  induction l with
  | nil => simp
  | cons a l ih =>
    have := ih fun x hx => this x (List.mem_cons_of_mem _ hx)
    have := ‹∀ x ∈ a :: l, 0 ≤ x ∧ x ≤ 10000› a List.mem_cons_self
    simp only [List.sum_cons, List.length_cons]; omega
theorem getD_lt {l : List Int} {k : Nat} (h : k < l.length) : l.getD k 0 = l[k] := by rw [List.getD_eq_getElem?_getD, List.getElem?_eq_getElem h]; rfl
theorem limOk_iff {l : List Int} : limOk l = true ↔ (1 ≤ l.length ∧ l.length ≤ 8) ∧ ∀ k (h : k < l.length), (0 ≤ l[k] ∧ l[k] ≤ 10000) ∧ (0 < k → l[k] ≤ l.getD (k - 1) 0) := by
  unfold limOk
  rw [Bool.and_eq_true, decide_eq_true_iff, decide_eq_true_iff]
  constructor
  · rintro ⟨h1, h2⟩
    exact ⟨h1, fun k h => by have := h2 k h; rw [getD_lt h] at this; exact this⟩
  · rintro ⟨h1, h2⟩
    exact ⟨h1, fun k h => by rw [getD_lt h]; exact h2 k h⟩
theorem nestOk_iff {lim sold : List Int} : nestOk lim sold = true ↔ limOk lim = true ∧ sold.length = lim.length ∧ ∀ k, k < lim.length → (0 ≤ sold.getD k 0 ∧ sold.getD k 0 ≤ 10000) ∧ fromN sold k ≤ lim.getD k 0 := by
  unfold nestOk
  rw [Bool.and_eq_true, Bool.and_eq_true, decide_eq_true_iff, decide_eq_true_iff]
theorem nestOk_no {lim sold : List Int} (h : ¬ (limOk lim = true ∧ sold.length = lim.length ∧ ∀ k, k < lim.length → (0 ≤ sold.getD k 0 ∧ sold.getD k 0 ≤ 10000) ∧ fromN sold k ≤ lim.getD k 0)) : nestOk lim sold = false := by
  rw [← Bool.not_eq_true, nestOk_iff]; exact h
theorem within_spec {x : Int} (hw : Sat R Hs w) : Gets Tryz.prog 226 #[.int .i64 x] w fun v w' => v = .bool (inR x) ∧ Sat R Hs w' := by
  apply call226
  unfold inR
  refine Br.d (fun h => ⟨?_, hw⟩) (fun h => ⟨?_, hw⟩)
  · congr 1; rw [decide_eq_decide]; omega
  · rw [decide_eq_false (by omega)]
theorem lefts_spec {sl ss : Sl} {lim sold : List Int} {ask : Value} {A : Nat → List HP} (hl : RoI R sl lim) (hs : RoI R ss sold)
    (hask : ∀ j w, j < lim.length → Sat R (A (j + 1)) w → CalW Tryz.prog cl ask [.int .i64 j, .int .i64 (roomF lim sold j)] w fun e w' => e = .returned (.tuple #[]) ∧ Sat R (A j) w')
    (hw : Sat R (A lim.length) w) :
    Gets Tryz.prog 197 #[.slice sl.a sl.len sl.cap, .slice ss.a ss.len ss.cap, ask] w fun v w' => v = .bool (nestOk lim sold) ∧ ∃ j, Sat R (A j) w' ∧ (nestOk lim sold = true → j = 0) := by
  have hll := hl.len
  have hsl := hs.len
  have hlb := hl.bound
  have hsb := hs.bound
  apply call197
  have no : ∀ j w, Sat R (A j) w → nestOk lim sold = false → Value.bool false = .bool (nestOk lim sold) ∧ ∃ j, Sat R (A j) w ∧ (nestOk lim sold = true → j = 0) := fun j w h e => ⟨by rw [e], j, h, fun h => by rw [e] at h; cases h⟩
  have nl : ¬ (1 ≤ lim.length ∧ lim.length ≤ 8) → nestOk lim sold = false := fun h => nestOk_no fun h2 => h (limOk_iff.1 h2.1).1
  refine ⟨fun w => (1 ≤ lim.length ∧ lim.length ≤ 8 ∧ sold.length = lim.length) ∧ Sat R (A lim.length) w, ?_, ?_⟩
  · refine Br.d (fun h => no _ _ hw (nl (by omega))) (fun h1 => Br.d (fun h => no _ _ hw (nl (by omega))) (fun h2 => Br.ne (fun h => no _ _ hw (nestOk_no fun h3 => by omega)) (fun h3 => ⟨⟨by omega, by omega, by omega⟩, hw⟩)))
  clear hw
  rintro _ w ⟨⟨h1, h2, h3⟩, hw⟩
  refine ⟨fun sum fine i w => ∃ j : Nat, i = (j : Int) - 1 ∧ j ≤ lim.length ∧ sum = fromN sold j ∧ (∀ x ∈ sold.drop j, 0 ≤ x ∧ x ≤ 10000) ∧
      (∀ k (h : k < lim.length), j ≤ k → (0 ≤ lim[k] ∧ lim[k] ≤ 10000) ∧ (0 < k → lim[k] ≤ lim.getD (k - 1) 0)) ∧ fine = decide (∀ k, k < lim.length → j ≤ k → fromN sold k ≤ lim.getD k 0) ∧ Sat R (A j) w,
    fun _ _ i _ => (i + 1).toNat, ⟨lim.length, ?_, by omega, ?_, ?_, fun k h h' => by omega, ?_, hw⟩, ?_⟩
  · rw [hll, wrap64 (by omega) (by omega)]
  · rw [fromN_end (by omega)]
  · rw [List.drop_eq_nil_of_le (by omega)]; simp
  · rw [decide_eq_true]; intro k h h'; omega
  clear hw
  rintro _ _ fine _ w ⟨j, rfl, hj, rfl, hsm, hlm, rfl, hw⟩
  refine Br.d (fun h => ?_) (fun h => ?_)
  · obtain ⟨i, rfl⟩ : ∃ i, j = i + 1 := ⟨j - 1, by omega⟩
    rw [show ((i + 1 : Nat) : Int) - 1 = (i : Int) by omega]
    have hil : i < lim.length := by omega
    have his : i < sold.length := by omega
    have nlim : ¬ ((0 ≤ lim[i] ∧ lim[i] ≤ 10000) ∧ (0 < i → lim[i] ≤ lim.getD (i - 1) 0)) → nestOk lim sold = false := fun h => nestOk_no fun h2 => h ((limOk_iff.1 h2.1).2 i hil)
    have nsold : ¬ (0 ≤ sold[i] ∧ sold[i] ≤ 10000) → nestOk lim sold = false := fun h => nestOk_no fun h2 => h (by have := (h2.2.2 i hil).1; rw [getD_lt his] at this; exact this)
    refine ⟨fun w => (inR lim[i] = true ∧ inR sold[i] = true ∧ (0 < i → lim[i] ≤ lim.getD (i - 1) 0)) ∧ Sat R (A (i + 1)) w, ?_, ?_⟩
    · refine drw_rule hw fun w hw => ?_
      refine Ro.ix hl selfS i rfl hil ?_
      refine (within_spec hw).use ?_
      rintro _ w ⟨rfl, hw⟩
      refine ⟨_, rfl, hw, Br.nb (fun h => no _ _ hw (nlim fun h2 => by unfold inR at h; have := of_decide_eq_false h; omega)) (fun h4 => ?_)⟩
      refine Ro.ix hs selfS i rfl his ?_
      refine (within_spec hw).use ?_
      rintro _ w ⟨rfl, hw⟩
      refine ⟨_, rfl, hw, Br.nb (fun h => no _ _ hw (nsold fun h2 => by unfold inR at h; have := of_decide_eq_false h; omega)) (fun h5 => ?_)⟩
      refine Br.d (fun h6 => ?_) (fun h6 => ⟨⟨h4, h5, fun h => by omega⟩, hw⟩)
      refine Ro.ix hl selfS i rfl hil ?_
      refine Ro.ix hl selfS (i - 1) (by rw [wrap64 (by omega) (by omega)]; omega) (by omega) ?_
      refine Br.d (fun h7 => no _ _ hw (nlim fun h8 => ?_)) (fun h7 => ⟨⟨h4, h5, fun _ => by rw [getD_lt (by omega)]; omega⟩, hw⟩)
      have := h8.2 (by omega)
      rw [getD_lt (by omega)] at this; omega
    clear hw
    rintro _ w ⟨⟨h4, h5, h6⟩, hw⟩
    have h4 := of_decide_eq_true h4
    have h5 := of_decide_eq_true h5
    have hsm' : ∀ x ∈ sold.drop i, 0 ≤ x ∧ x ≤ 10000 := fun x hx => by
      rw [List.drop_eq_getElem_cons his] at hx
      rcases List.mem_cons.1 hx with rfl | hx
      · exact h5
      · exact hsm x hx
    have hfs := fromN_step his
    have hfb : 0 ≤ fromN sold (i + 1) ∧ fromN sold (i + 1) ≤ 80000 := by
      have := fromN_bd (sold := sold.drop (i + 1)) hsm 0
      unfold fromN at this ⊢
      rw [List.drop_zero] at this
      rw [List.length_drop] at this
      omega
    have hroom : IntKind.i64.wrap (lim[i] - fromN sold i) = roomF lim sold i := by
      rw [wrap64 (by omega) (by omega)]
      unfold roomF; rw [getD_lt hil]
    have hsum : IntKind.i64.wrap (fromN sold (i + 1) + sold[i]) = fromN sold i := by rw [wrap64 (by omega) (by omega)]; omega
    have hk : IntKind.i64.wrap ((i : Int) - 1) = (i : Int) - 1 := wrap64 (by omega) (by omega)
    have fin : ∀ w, Sat R (A i) w → ∀ b : Bool, b = (decide (∀ k, k < lim.length → i + 1 ≤ k → fromN sold k ≤ lim.getD k 0) && decide (fromN sold i ≤ lim[i])) →
        (∃ j : Nat, (i : Int) - 1 = (j : Int) - 1 ∧ j ≤ lim.length ∧ fromN sold i = fromN sold j ∧ (∀ x ∈ sold.drop j, 0 ≤ x ∧ x ≤ 10000) ∧
          (∀ k (h : k < lim.length), j ≤ k → (0 ≤ lim[k] ∧ lim[k] ≤ 10000) ∧ (0 < k → lim[k] ≤ lim.getD (k - 1) 0)) ∧ b = decide (∀ k, k < lim.length → j ≤ k → fromN sold k ≤ lim.getD k 0) ∧ Sat R (A j) w) ∧ ((i : Int) - 1 + 1).toNat < ((i : Int) + 1).toNat := fun w hw b hb => by
      refine ⟨⟨i, rfl, by omega, rfl, hsm', fun k h h' => ?_, ?_, hw⟩, by omega⟩
      · by_cases hki : k = i
        · subst hki; exact ⟨h4, h6⟩
        · exact hlm k h (by omega)
      · rw [hb, ← Bool.decide_and, decide_eq_decide]
        constructor
        · rintro ⟨a, b⟩ k c d
          by_cases hki : k = i
          · subst hki; rw [getD_lt hil]; exact b
          · exact a k c (by omega)
        · intro a
          exact ⟨fun k c d => a k c (by omega), by have := a i hil (by omega); rw [getD_lt hil] at this; exact this⟩
    refine Ro.ix hs (eqS hw) i rfl his ?_
    rw [hsum, hk]
    refine Br.d (fun h7 => ?_) (fun h7 => ?_)
    · refine Ro.ix hl (eqS hw) i rfl hil (Ro.ix hl (eqS hw) i rfl hil ?_)
      rw [hroom]
      refine (hask i w hil hw).mono ?_
      rintro _ w ⟨rfl, hw⟩
      exact ⟨rfl, fin w hw _ (by rw [decide_eq_true h7]; rfl)⟩
    · refine Ro.ix hl (eqS hw) i rfl hil ?_
      rw [hroom]
      refine (hask i w hil hw).mono ?_
      rintro _ w ⟨rfl, hw⟩
      exact ⟨rfl, fin w hw _ (by rw [decide_eq_false h7]; rfl)⟩
  · obtain rfl : j = 0 := by omega
    have e : nestOk lim sold = decide (∀ k, k < lim.length → 0 ≤ k → fromN sold k ≤ lim.getD k 0) := by
      rw [Bool.eq_iff_iff, nestOk_iff, decide_eq_true_iff]
      constructor
      · intro h k h4 _; exact (h.2.2 k h4).2
      · intro h
        refine ⟨limOk_iff.2 ⟨⟨h1, h2⟩, fun k h4 => hlm k h4 (by omega)⟩, h3, fun k h4 => ⟨?_, h k h4 (by omega)⟩⟩
        rw [getD_lt (by omega)]
        exact hsm _ (by rw [List.drop_zero]; exact List.getElem_mem _)
    exact ⟨by rw [e], 0, hw, fun _ => rfl⟩
end Go.Proofs.YtfgbbckfikiomaaGreatDoor
/- Classes and limits: package nest, reference 14: what is left, selling, giving back. Condition: none. -/
namespace Go.Proofs.YtfgbbckfikiomaaGreatDoor
set_option linter.unusedVariables false
open Go Go.VC
variable {R : Cx} {Hs Rest : List HP} {w : World}
def leastH (b : Nat) (x : Nat → Int) (j c : Nat) : HP := fun h => ∃ L, IsMn x j c L ∧ pts b (.cells [.int .i64 L].toArray 3 (0, 0)) h
theorem leastH_out {b j c : Nat} {x : Nat → Int} (hw : Sat R (leastH b x j c :: Hs) w) : ∃ L, IsMn x j c L ∧ Sat R (pts b (.cells [.int .i64 L].toArray 3 (0, 0)) :: Hs) w :=
  let ⟨h, ⟨L, hL, hp⟩, hd, hs⟩ := hw
  ⟨L, hL, h, hp, hd, hs⟩
theorem leastH_in {b j c : Nat} {x : Nat → Int} {L : Int} (hL : IsMn x j c L) (hw : Sat R (pts b (.cells [.int .i64 L].toArray 3 (0, 0)) :: Hs) w) : Sat R (leastH b x j c :: Hs) w :=
  Sat.imp (fun _ h => ⟨L, hL, h⟩) hw
theorem left1_spec {bc bl : Nat} {c : Int} {x : Nat → Int} {j : Nat} (hw : Sat R (leastH bl x (j + 1) (c + 1).toNat :: pts bc (.cells [.int .i64 c].toArray 3 (0, 0)) :: Hs) w) :
    Gets Tryz.prog 198 #[.int .i64 j, .int .i64 (x j), .pointer (some ⟨bc, 0, none⟩), .pointer (some ⟨bl, 0, none⟩)] w fun v w' => v = .tuple #[] ∧ Sat R (leastH bl x j (c + 1).toNat :: pts bc (.cells [.int .i64 c].toArray 3 (0, 0)) :: Hs) w' := by
  obtain ⟨L, hL, hw⟩ := leastH_out hw
  apply call198
  refine NilP.mk rfl ⟨c, At.own (eqS hw) (by exact ⟨rfl, trivial⟩), Br.d (fun h => ?_) (fun h => ⟨rfl, leastH_in (hL.skip (by omega)) hw⟩)⟩
  refine NilP.mk rfl ⟨L, At.own (eqS hw) (by exact ⟨rfl, trivial⟩), ?_⟩
  refine store_rule hw (by kernel_rfl) rfl (by simp [Value.cells]) fun w hw => ?_
  exact ⟨rfl, leastH_in (hL.step (by omega)) hw⟩
theorem left_spec {sl ss : Sl} {lim sold : List Int} {c : Int} (hl : RoI R sl lim) (hs : RoI R ss sold) (hw : Sat R Hs w) :
    Gets Tryz.prog 131 #[.slice sl.a sl.len sl.cap, .slice ss.a ss.len ss.cap, .int .i64 c] w fun v w' => v = .tuple #[.int .i64 (leftT lim sold c).1, .int .i64 (leftT lim sold c).2] ∧ Sat R Hs w' := by
  have hll := hl.len
  have hlb := hl.bound
  have no : ¬ (nestOk lim sold = true ∧ 0 ≤ c ∧ c < lim.length) → leftT lim sold c = (0, 1) := fun h => by unfold leftT; rw [if_neg h]
  apply call131
  refine new_rule hw fun bc w hw => ?_
  refine new_rule hw fun bl w hw => ?_
  have hw : Sat R (pts bl (.cells [.int .i64 0].toArray 3 (0, 0)) :: pts bc (.cells [.int .i64 c].toArray 3 (0, 0)) :: Hs) w := hw
  refine store_rule hw (by kernel_rfl) rfl (by simp [Value.cells]) fun w hw => ?_
  have hw : Sat R (pts bl (.cells [.int .i64 10000].toArray 3 (0, 0)) :: pts bc (.cells [.int .i64 c].toArray 3 (0, 0)) :: Hs) w := hw
  by_cases hc : c < lim.length
  · have h0 : IsMn (roomF lim sold) lim.length (c + 1).toNat 10000 := ⟨by omega, fun k h1 h2 => by omega, .inl rfl⟩
    refine (lefts_spec (A := fun j => leastH bl (roomF lim sold) j (c + 1).toNat :: pts bc (.cells [.int .i64 c].toArray 3 (0, 0)) :: Hs) hl hs (fun j w _ hw => CalW.mk (by kernel_rfl) ((left1_spec hw).use fun v w' h => ⟨by rw [h.1], h.2⟩)) (leastH_in h0 hw)).use ?_
    rintro _ w ⟨rfl, j, hw, hj⟩
    refine ⟨_, rfl, Br.nb (fun h => ⟨?_, hw.drop.drop⟩) (fun h1 => ?_)⟩
    · rw [no (fun h2 => by rw [h] at h2; cases h2.1)]
    obtain rfl := hj h1
    obtain ⟨L, hL, hw⟩ := leastH_out hw
    refine ⟨c, At.own (eqS hw) (by exact ⟨rfl, trivial⟩), Br.d (fun h => ⟨by rw [no (fun h2 => by omega)], hw.drop.drop⟩) (fun h2 => ?_)⟩
    refine ⟨c, At.own (eqS hw) (by exact ⟨rfl, trivial⟩), Br.d (fun h => ⟨by rw [no (fun h2 => by omega)], hw.drop.drop⟩) (fun h3 => ?_)⟩
    refine ⟨L, At.own (eqS hw) (by exact ⟨rfl, trivial⟩), ?_, hw.drop.drop⟩
    have e : leftT lim sold c = (mnF (roomF lim sold) (c.toNat + 1), 0) := by unfold leftT; rw [if_pos ⟨h1, by omega, hc⟩]
    rw [e, show c.toNat + 1 = (c + 1).toNat by omega]
    rw [hL.eq (mnF_is _ _)]
  · have h0 : IsMn (fun _ => 0) 0 0 10000 := ⟨by omega, fun k h1 h2 => by omega, .inl rfl⟩
    refine (lefts_spec (A := fun j => exs (fun L => pts bl (.cells [.int .i64 L].toArray 3 (0, 0))) :: pts bc (.cells [.int .i64 c].toArray 3 (0, 0)) :: Hs) hl hs (fun j w _ hw => CalW.mk (by kernel_rfl) ?_) (Sat.exs.2 ⟨10000, hw⟩)).use ?_
    · obtain ⟨L, hw⟩ := Sat.exs.1 hw
      refine Gets.use (Q := fun v w' => v = .tuple #[] ∧ Sat R (exs (fun L => pts bl (.cells [.int .i64 L].toArray 3 (0, 0))) :: pts bc (.cells [.int .i64 c].toArray 3 (0, 0)) :: Hs) w') (call198 _ _ _ _ _ _ ?_) fun v w' h => ⟨by rw [h.1], h.2⟩
      refine NilP.mk rfl ⟨c, At.own (eqS hw) (by exact ⟨rfl, trivial⟩), Br.d (fun h => ?_) (fun h => ⟨rfl, Sat.exs.2 ⟨L, hw⟩⟩)⟩
      refine NilP.mk rfl ⟨L, At.own (eqS hw) (by exact ⟨rfl, trivial⟩), ?_⟩
      refine store_rule hw (by kernel_rfl) rfl (by simp [Value.cells]) fun w hw => ?_
      exact ⟨rfl, Sat.exs.2 ⟨_, hw⟩⟩
    rintro _ w ⟨rfl, j, hw, hj⟩
    obtain ⟨L, hw⟩ := Sat.exs.1 hw
    have e := no (fun h2 => by omega)
    refine ⟨_, rfl, Br.nb (fun h => ⟨by rw [e], hw.drop.drop⟩) (fun h1 => ?_)⟩
    refine ⟨c, At.own (eqS hw) (by exact ⟨rfl, trivial⟩), Br.d (fun h => ⟨by rw [e], hw.drop.drop⟩) (fun h2 => ?_)⟩
    refine ⟨c, At.own (eqS hw) (by exact ⟨rfl, trivial⟩), Br.d (fun h => ⟨by rw [e], hw.drop.drop⟩) (fun h3 => by omega)⟩
theorem cloneI_spec {s : Sl} {l : List Int} (hs : RoI R s l) (hl : l.length ≤ 1000000000) (hw : Sat R Hs w) :
    Gets Tryz.prog 172 #[.slice s.a s.len s.cap] w fun v w' => ∃ t : Sl, v = .slice t.a t.len t.cap ∧ Sat R (Own t 3 (l.map (Value.int .i64)) :: Hs) w' := by
  apply call172
  refine Br.mk (fun h => ?_) (fun h => ?_)
  · have hnil : l = [] := by
      by_cases hn : l = []
      · exact hn
      · obtain ⟨b, off, l', T, fr, ha, _⟩ := hs.mem (by simpa using hn)
        rw [ha] at h; cases h
    subst hnil
    exact ⟨⟨none, 0, 0⟩, rfl, Own.nil hw⟩
  · refine new_rule hw fun b w hw => ?_
    have hw : Sat R (Own ⟨some ⟨b, 0, none⟩, 0, 0⟩ 3 (([] : List Int).map (Value.int .i64)) :: Hs) w := own_lit hw
    refine appendRI elI8 (s := ⟨some ⟨b, 0, none⟩, 0, 0⟩) (n := 1000000000) Tryz.underlying28 hw hs (by simpa using hl) (by omega) (by omega) fun t w hw => ?_
    exact ⟨t, rfl, hw⟩
end Go.Proofs.YtfgbbckfikiomaaGreatDoor

/- Floats, plain: a part of some seats, as a whole number of them. No program. No condition. -/
namespace Go.VC
set_option linter.unusedVariables false
open Ieee
abbrev fw (n : Nat) : Nat := double.nearest false n 0
def fwOk (n : Nat) : Bool := match double.read (fw n) with
  | .number false m e => decide (e ≤ 0) && (m == n <<< (-e).toNat)
  | _ => false
set_option maxRecDepth 100000 in
theorem fw_all : (List.range 10002).all fwOk = true := by kernel_rfl
theorem fw_read {n : Nat} (h : n ≤ 10001) : ∃ d : Nat, double.read (fw n) = .number false (n * 2 ^ d) (-(d : Int)) := by
  have := List.all_eq_true.1 fw_all n (List.mem_range.2 (by omega))
  unfold fwOk at this
  split at this
  · rename_i m e he
    simp only [Bool.and_eq_true, decide_eq_true_eq, beq_iff_eq] at this
    refine ⟨(-e).toNat, ?_⟩
    rw [he, this.2, Nat.shiftLeft_eq, show (-((-e).toNat : Int)) = e by omega]
  · cases this
theorem cut_le {n drop B : Nat} (h : n < B * 2 ^ drop) : Toward.even.cut false n drop ≤ B := by
  unfold Toward.cut
  simp only
  generalize hg : 1 <<< min drop (n.log2 + 2) = gap
  rw [Nat.shiftLeft_eq, Nat.one_mul] at hg
  have hb : ∀ b : Bool, b.toNat ≤ 1 := fun b => by cases b <;> simp
  by_cases hd : drop ≤ n.log2 + 2
  · rw [Nat.min_eq_left hd] at hg
    subst hg
    have h1 : n / 2 ^ drop < B := (Nat.div_lt_iff_lt_mul (Nat.two_pow_pos drop)).2 h
    have := hb (decide (2 ^ drop < 2 * (n % 2 ^ drop)) || (2 ^ drop == 2 * (n % 2 ^ drop) && n / 2 ^ drop % 2 == 1))
    omega
  · rw [Nat.min_eq_right (by omega)] at hg
    have hn : n < 2 ^ (n.log2 + 1) := Nat.lt_log2_self
    have hp : 2 ^ (n.log2 + 2) = 2 * 2 ^ (n.log2 + 1) := by rw [Nat.pow_succ]; omega
    subst hg
    have h0 : n / 2 ^ (n.log2 + 2) = 0 := Nat.div_eq_of_lt (by omega)
    have h1 : n % 2 ^ (n.log2 + 2) = n := Nat.mod_eq_of_lt (by omega)
    rw [h0, h1]
    have e1 : decide (2 ^ (n.log2 + 2) < 2 * n) = false := decide_eq_false (by omega)
    have e2 : (2 ^ (n.log2 + 2) == 2 * n) = false := by
      rw [beq_eq_false_iff_ne]; omega
    rw [e1, e2]
    simp
end Go.VC
/- Floats, plain, part 2. No program. No condition. -/
namespace Go.VC
set_option linter.unusedVariables false
open Ieee
theorem dbl_least : double.leastPlace = -1074 := by decide
theorem dbl_binade : double.binade = 4503599627370496 := by decide
theorem dbl_inf : double.infRung = 2047 * 4503599627370496 := by decide
theorem dbl_sign : double.signWeight = 9223372036854775808 := by decide
theorem dbl_frac : (double.fractionBits : Nat) = 52 := rfl
theorem cut_down {n drop : Nat} : Toward.down.cut false n drop = n / 2 ^ drop := by
  unfold Toward.cut
  simp only
  rw [Nat.shiftLeft_eq, Nat.one_mul]
  have e : (false && n % 2 ^ min drop (n.log2 + 2) != 0).toNat = 0 := by simp
  rw [e, Nat.add_zero]
  by_cases hd : drop ≤ n.log2 + 2
  · rw [Nat.min_eq_left hd]
  · rw [Nat.min_eq_right (by omega)]
    have hn : n < 2 ^ (n.log2 + 1) := Nat.lt_log2_self
    have h1 : 2 ^ (n.log2 + 1) ≤ 2 ^ (n.log2 + 2) := Nat.pow_le_pow_right (by omega) (by omega)
    have h2 : 2 ^ (n.log2 + 2) ≤ 2 ^ drop := Nat.pow_le_pow_right (by omega) (by omega)
    rw [Nat.div_eq_of_lt (by omega), Nat.div_eq_of_lt (by omega)]
theorem cut_bd {n drop : Nat} (h : drop ≤ n.log2 + 2) : n / 2 ^ drop ≤ Toward.even.cut false n drop ∧ Toward.even.cut false n drop ≤ n / 2 ^ drop + 1 := by
  unfold Toward.cut
  simp only
  rw [Nat.shiftLeft_eq, Nat.one_mul, Nat.min_eq_left h]
  have hb : ∀ b : Bool, b.toNat ≤ 1 := fun b => by cases b <;> simp
  have := hb (decide (2 ^ drop < 2 * (n % 2 ^ drop)) || (2 ^ drop == 2 * (n % 2 ^ drop) && n / 2 ^ drop % 2 == 1))
  omega
theorem read_rung {i kept : Nat} (hi : i ≤ 1074) (hk : kept ≤ 9007199254740992) (hk2 : 0 < i → 4503599627370496 ≤ kept) :
    ∃ mp : Nat, ∃ j : Nat, double.read (i * 4503599627370496 + kept) = .number false mp (-1074 + (j : Int)) ∧ ((mp = kept ∧ j = i) ∨ (mp = 4503599627370496 ∧ kept = 9007199254740992 ∧ j = i + 1)) := by
  have hr : i * 4503599627370496 + kept < 9223372036854775808 := by omega
  unfold Format.read
  simp only
  rw [dbl_sign, dbl_binade, dbl_inf, dbl_least]
  rw [Nat.mod_eq_of_lt hr, Nat.div_eq_of_lt hr]
  have e0 : (0 % 2 == 1) = false := by decide
  rw [e0]
  by_cases h1 : i * 4503599627370496 + kept < 4503599627370496
  · rw [if_pos h1]
    have : i = 0 := by omega
    subst this
    exact ⟨_, 0, rfl, .inl ⟨by omega, rfl⟩⟩
  rw [if_neg h1, if_pos (by omega)]
  by_cases h2 : kept < 9007199254740992
  · have h3 : 4503599627370496 ≤ kept := by
      by_cases hi0 : 0 < i
      · exact hk2 hi0
      · omega
    have d1 : (i * 4503599627370496 + kept) / 4503599627370496 = i + 1 := by omega
    have d2 : (i * 4503599627370496 + kept) % 4503599627370496 = kept - 4503599627370496 := by omega
    rw [d1, d2]
    refine ⟨_, i, ?_, .inl ⟨rfl, rfl⟩⟩
    rw [show 4503599627370496 + (kept - 4503599627370496) = kept by omega, show i + 1 - 1 = i by omega]
  · have : kept = 9007199254740992 := by omega
    subst this
    have d1 : (i * 4503599627370496 + 9007199254740992) / 4503599627370496 = i + 2 := by omega
    have d2 : (i * 4503599627370496 + 9007199254740992) % 4503599627370496 = 0 := by omega
    rw [d1, d2]
    exact ⟨_, i + 1, rfl, .inr ⟨by omega, rfl, rfl⟩⟩
theorem plc1 {j L : Nat} (h : j = 1074 - L) (h2 : L ≤ 1074) : -1074 + (j : Int) = -(L : Int) := by omega
theorem plc2 {j L : Nat} (h : j = 1074 - L + 1) (h2 : L ≤ 1074) (h1 : 39 ≤ L) : -1074 + (j : Int) = -((L - 1 : Nat) : Int) := by omega
theorem half_le {B L kept : Nat} (h1 : kept ≤ B * 2 ^ L) (h2 : kept = 9007199254740992) (h3 : 39 ≤ L) : 4503599627370496 ≤ B * 2 ^ (L - 1) := by
  have h4 : 2 ^ L = 2 * 2 ^ (L - 1) := by rw [← Nat.pow_succ']; congr 1; omega
  rw [h4, Nat.mul_left_comm] at h1
  clear h4
  generalize B * 2 ^ (L - 1) = y at *
  omega
theorem near_read {M d B : Nat} (hB : B ≤ 10000) (hlt : M < B * 2 ^ d) :
    ∃ mp dp : Nat, double.read (double.nearest false M (-(d : Int))) = .number false mp (-(dp : Int)) ∧ mp ≤ B * 2 ^ dp := by
  by_cases hM : M = 0
  · subst hM
    refine ⟨0, 1074, ?_, by omega⟩
    unfold Format.nearest
    rw [if_pos rfl]
    decide
  unfold Format.nearest
  rw [if_neg hM, dbl_least, dbl_binade, dbl_inf, dbl_frac]
  have hlog : 2 ^ M.log2 ≤ M := Nat.log2_self_le hM
  have hlog2 : M < 2 ^ (M.log2 + 1) := Nat.lt_log2_self
  have hl14 : M.log2 < 14 + d := by
    have : 2 ^ M.log2 < 2 ^ (14 + d) := by
      rw [Nat.pow_add]
      have : B * 2 ^ d ≤ 2 ^ 14 * 2 ^ d := Nat.mul_le_mul_right _ (by omega)
      omega
    exact (Nat.pow_lt_pow_iff_right (by omega)).1 this
  simp only
  generalize hlast : max (-(d : Int) + (M.log2 : Int) - ((52 : Nat) : Int)) (-1074) = last
  obtain ⟨L, hL⟩ : ∃ L : Nat, last = -(L : Int) := ⟨(-last).toNat, by omega⟩
  have hL1 : 39 ≤ L := by omega
  have hL2 : L ≤ 1074 := by omega
  subst hL
  have hi : (-(L : Int) - -1074).toNat = 1074 - L := by omega
  rw [hi]
  -- what is kept
  obtain ⟨kept, hkd, hk1, hk2, hk3⟩ : ∃ kept, Toward.even.cut false (M <<< (-(d : Int) - -(L : Int)).toNat) (-(L : Int) - -(d : Int)).toNat = kept ∧ kept ≤ B * 2 ^ L ∧ kept ≤ 9007199254740992 ∧ (0 < 1074 - L → 4503599627370496 ≤ kept) := by
    refine ⟨_, rfl, ?_⟩
    by_cases hdl : d ≤ L
    · have e1 : (-(d : Int) - -(L : Int)).toNat = L - d := by omega
      have e2 : (-(L : Int) - -(d : Int)).toNat = 0 := by omega
      rw [e1, e2, Nat.shiftLeft_eq]
      have hp : 2 ^ L = 2 ^ d * 2 ^ (L - d) := by rw [← Nat.pow_add]; congr 1; omega
      have hlt' : M * 2 ^ (L - d) < B * 2 ^ L := by
        rw [hp, ← Nat.mul_assoc]
        exact Nat.mul_lt_mul_of_pos_right hlt (Nat.two_pow_pos _)
      have c1 := cut_le (n := M * 2 ^ (L - d)) (drop := 0) (B := B * 2 ^ L) (by simpa using hlt')
      have c2 := cut_bd (n := M * 2 ^ (L - d)) (drop := 0) (by omega)
      rw [Nat.pow_zero, Nat.div_one] at c2
      -- no rest, so it is the number itself
      have c3 : Toward.even.cut false (M * 2 ^ (L - d)) 0 = M * 2 ^ (L - d) := by
        unfold Toward.cut
        simp [Nat.mod_one]
      rw [c3] at c1 ⊢
      have hup : M * 2 ^ (L - d) < 2 ^ (M.log2 + 1) * 2 ^ (L - d) := Nat.mul_lt_mul_of_pos_right hlog2 (Nat.two_pow_pos _)
      rw [← Nat.pow_add] at hup
      have hle : M.log2 + 1 + (L - d) ≤ 53 := by omega
      have h53 : 2 ^ (M.log2 + 1 + (L - d)) ≤ 2 ^ 53 := Nat.pow_le_pow_right (by omega) hle
      refine ⟨c1, by omega, fun h => ?_⟩
      have hlo : 2 ^ M.log2 * 2 ^ (L - d) ≤ M * 2 ^ (L - d) := Nat.mul_le_mul_right _ hlog
      rw [← Nat.pow_add] at hlo
      have he : M.log2 + (L - d) = 52 := by omega
      rw [he] at hlo
      omega
    · have e1 : (-(d : Int) - -(L : Int)).toNat = 0 := by omega
      have e2 : (-(L : Int) - -(d : Int)).toNat = d - L := by omega
      rw [e1, e2, Nat.shiftLeft_zero]
      have hp : 2 ^ d = 2 ^ L * 2 ^ (d - L) := by rw [← Nat.pow_add]; congr 1; omega
      have c1 := cut_le (n := M) (drop := d - L) (B := B * 2 ^ L) (by rw [Nat.mul_assoc, ← hp]; exact hlt)
      by_cases hdr : d - L ≤ M.log2 + 2
      · have c2 := cut_bd hdr
        have hup : M / 2 ^ (d - L) < 2 ^ 53 := by
          rw [Nat.div_lt_iff_lt_mul (Nat.two_pow_pos _), ← Nat.pow_add]
          have : 2 ^ (M.log2 + 1) ≤ 2 ^ (53 + (d - L)) := Nat.pow_le_pow_right (by omega) (by omega)
          omega
        refine ⟨c1, by omega, fun h => ?_⟩
        have hlo : 2 ^ 52 ≤ M / 2 ^ (d - L) := by
          rw [Nat.le_div_iff_mul_le (Nat.two_pow_pos _), ← Nat.pow_add]
          have : 2 ^ (52 + (d - L)) ≤ 2 ^ M.log2 := Nat.pow_le_pow_right (by omega) (by omega)
          omega
        omega
      · -- all of it is dropped
        have hL3 : L = 1074 := by omega
        have c0 : Toward.even.cut false M (d - L) ≤ 1 := cut_le (by
          have h1 : 2 ^ (M.log2 + 1) ≤ 2 ^ (d - L) := Nat.pow_le_pow_right (by omega) (by omega)
          omega)
        exact ⟨c1, by omega, fun h => by omega⟩
  rw [hkd]
  obtain ⟨mp, j, hr, hc⟩ := read_rung (i := 1074 - L) (by omega) hk2 hk3
  have hmin : min ((1074 - L) * 4503599627370496 + kept) (2047 * 4503599627370496) = (1074 - L) * 4503599627370496 + kept := Nat.min_eq_left (by omega)
  have hword : double.word false (min ((1074 - L) * 4503599627370496 + kept) (2047 * 4503599627370496)) = (1074 - L) * 4503599627370496 + kept := by rw [hmin]; unfold Format.word; rw [if_neg (by simp)]
  rw [hword, hr]
  rcases hc with ⟨hmk, hj⟩ | ⟨hmk, hkk, hj⟩
  · exact ⟨mp, L, by rw [plc1 hj hL2], by rw [hmk]; exact hk1⟩
  · exact ⟨mp, L - 1, by rw [plc2 hj hL2 hL1], by rw [hmk]; exact half_le hk1 hkk hL1⟩
end Go.VC
/- Floats, plain, part 3: the part of some seats. No program. No condition. -/
namespace Go.VC
set_option linter.unusedVariables false
open Ieee
def NumW (p mp dp : Nat) : Prop := double.read p = .number false mp (-(dp : Int))
theorem fw_num {n : Nat} (h : n ≤ 10001) : ∃ d, NumW (fw n) (n * 2 ^ d) d := fw_read h
theorem zero_num : NumW 0 0 1074 := by unfold NumW; decide
theorem part_num {x : Nat} (h0 : double.order x 0 = some .gt) (h1 : double.order x 4607182418800017408 ≠ some .gt) (h2 : double.order x 4607182418800017408 ≠ some .eq) : ∃ m d, NumW x m d ∧ 0 < m ∧ m < 2 ^ d := by
  have e0 : double.read 0 = .number false 0 (-1074) := by decide
  have e1 : double.read 4607182418800017408 = .number false 4503599627370496 (-52) := by decide
  unfold Format.order at h0 h1 h2
  rw [e0] at h0
  rw [e1] at h1 h2
  generalize hx : double.read x = dx at h0 h1 h2
  cases dx with
  | nan s f => simp [Datum.order] at h0
  | infinity s =>
    cases s
    · exact absurd rfl h1
    · simp [Datum.order] at h0
  | number s m e =>
    unfold Datum.order at h0 h1 h2
    simp only [ne_eq, Option.some.injEq] at h0 h1 h2
    have hg := Int.compare_eq_gt.1 h0
    have hz : signed false 0 (-1074 - min e (-1074)).toNat = 0 := by simp [signed]
    rw [hz] at hg
    cases s with
    | true =>
      exfalso
      unfold signed at hg
      rw [if_pos rfl] at hg
      generalize m <<< (e - min e (-1074)).toNat = y at hg
      omega
    | false =>
      have hm : 0 < m := by
        rcases Nat.eq_zero_or_pos m with h | h
        · subst h; simp [signed] at hg
        · exact h
      have hlt : signed false m (e - min e (-52)).toNat < signed false 4503599627370496 (-52 - min e (-52)).toNat := by
        rcases Int.lt_trichotomy (signed false m (e - min e (-52)).toNat) (signed false 4503599627370496 (-52 - min e (-52)).toNat) with h | h | h
        · exact h
        · exact absurd (Int.compare_eq_eq.2 h) h2
        · exact absurd (Int.compare_eq_gt.2 h) h1
      unfold signed at hlt
      rw [if_neg (by simp), if_neg (by simp), Nat.shiftLeft_eq, Nat.shiftLeft_eq] at hlt
      have hlt : m * 2 ^ (e - min e (-52)).toNat < 4503599627370496 * 2 ^ (-52 - min e (-52)).toNat := Int.ofNat_lt.1 hlt
      have hneg : e < 0 := by
        by_cases he : 0 ≤ e
        · exfalso
          have a1 : min e (-52) = -52 := by omega
          rw [a1, show (-52 - (-52) : Int).toNat = 0 from rfl, Nat.pow_zero, Nat.mul_one] at hlt
          have : 2 ^ 52 ≤ 2 ^ (e - -52).toNat := Nat.pow_le_pow_right (by omega) (by omega)
          have : 1 * 2 ^ (e - -52).toNat ≤ m * 2 ^ (e - -52).toNat := Nat.mul_le_mul_right _ hm
          omega
        · omega
      refine ⟨m, (-e).toNat, ?_, hm, ?_⟩
      · unfold NumW; rw [hx, show (-((-e).toNat : Int)) = e by omega]
      · by_cases h52 : -52 ≤ e
        · have a1 : min e (-52) = -52 := by omega
          rw [a1, show (-52 - (-52) : Int).toNat = 0 from rfl, Nat.pow_zero, Nat.mul_one] at hlt
          have a2 : (2 : Nat) ^ 52 = 2 ^ (-e).toNat * 2 ^ (e - -52).toNat := by rw [← Nat.pow_add]; congr 1; omega
          have a3 : m * 2 ^ (e - -52).toNat < 2 ^ (-e).toNat * 2 ^ (e - -52).toNat := by rw [← a2]; omega
          exact Nat.lt_of_mul_lt_mul_right a3
        · have a1 : min e (-52) = e := by omega
          rw [a1, show (e - e).toNat = 0 by omega, Nat.pow_zero, Nat.mul_one] at hlt
          have a2 : 2 ^ (-e).toNat = 2 ^ 52 * 2 ^ (-52 - e).toNat := by rw [← Nat.pow_add]; congr 1; omega
          rw [a2]; exact hlt
theorem part_mul {x m d s : Nat} (hx : NumW x m d) (hlt : m < 2 ^ d) (hs : s ≤ 10000) : ∃ p mp dp, double.mul x (fw s) = some p ∧ NumW p mp dp ∧ mp ≤ s * 2 ^ dp := by
  obtain ⟨ds, hd⟩ := fw_num (n := s) (by omega)
  have hmul : double.mul x (fw s) = some (double.nearest false (m * (s * 2 ^ ds)) (-((d + ds : Nat) : Int))) := by
    unfold Format.mul
    rw [hx, hd]
    show some (double.write (.number (false ^^ false) (m * (s * 2 ^ ds)) (-(d : Int) + -(ds : Int)))) = _
    rw [show (-(d : Int) + -(ds : Int)) = -((d + ds : Nat) : Int) by omega]
    rfl
  rcases Nat.eq_zero_or_pos s with h0 | h0
  · subst h0
    refine ⟨_, 0, 1074, hmul, ?_, by omega⟩
    rw [Nat.zero_mul, Nat.mul_zero]
    unfold Format.nearest
    rw [if_pos rfl]
    exact zero_num
  · have hb : m * (s * 2 ^ ds) < s * 2 ^ (d + ds) := by
      have a1 : s * 2 ^ (d + ds) = 2 ^ d * (s * 2 ^ ds) := by rw [Nat.pow_add, Nat.mul_left_comm]
      rw [a1]
      exact Nat.mul_lt_mul_of_pos_right hlt (Nat.mul_pos h0 (Nat.two_pow_pos _))
    obtain ⟨mp, dp, hr, hle⟩ := near_read hs hb
    exact ⟨_, mp, dp, hmul, hr, hle⟩
theorem floor_word {p mp dp : Nat} (hp : NumW p mp dp) : double.write ((double.read p).integral .down) = fw (mp / 2 ^ dp) := by
  rw [hp]
  unfold Datum.integral
  simp only
  rw [show (-(dp : Int)).toNat = 0 by omega, Nat.shiftLeft_zero, show (- -(dp : Int)).toNat = dp by omega, cut_down]
  rfl
theorem fw_int {n : Nat} (h : n ≤ 10001) : (double.read (fw n)).toInt .zero = some (n : Int) := by
  obtain ⟨d, hd⟩ := fw_num h
  unfold Datum.toInt
  rw [hd]
  unfold Datum.integral
  simp only
  rw [show (-(d : Int)).toNat = 0 by omega, Nat.shiftLeft_zero, show (- -(d : Int)).toNat = d by omega]
  have : Toward.zero.cut false (n * 2 ^ d) d = n := by
    have : Toward.zero.cut false (n * 2 ^ d) d = Toward.down.cut false (n * 2 ^ d) d := by
      unfold Toward.cut; simp
    rw [this, cut_down, Nat.mul_div_cancel _ (Nat.two_pow_pos d)]
  rw [this]
  simp [signed]
end Go.VC
/- A part of some seats: package fare and reference 03. Condition: none. -/
namespace Go.Proofs.YtfgbbckfikiomaaGreatDoor
set_option linter.unusedVariables false
open Go Go.VC Ieee
variable {R : Cx} {Hs Rest : List HP} {w : World}
def floF (x s : Nat) : Nat := match double.mul x (fw s) with
  | some p => (match double.read p with | .number _ m e => m / 2 ^ (-e).toNat | _ => 0)
  | none => 0
def isGt (x : Nat) : Bool := double.order x 0 == some .gt
def isGe1 (x : Nat) : Bool := double.order x 4607182418800017408 == some .gt || double.order x 4607182418800017408 == some .eq
def levelT (x : Nat) (s : Int) : Int × Int :=
  if s < 0 ∨ s > 10000 then (0, 1) else if isGt x = false then (0, 0) else if isGe1 x = true then (s, 0) else ((floF x s.toNat : Nat), 0)
theorem flo_out {x s : Nat} (h0 : isGt x = true) (h1 : isGe1 x = false) (hs : s ≤ 10000) : ∃ p mp dp, double.mul x (fw s) = some p ∧ NumW p mp dp ∧ mp ≤ s * 2 ^ dp ∧ floF x s = mp / 2 ^ dp ∧ floF x s ≤ s := by
  unfold isGt at h0
  unfold isGe1 at h1
  simp only [Bool.or_eq_false_iff, beq_eq_false_iff_ne, ne_eq] at h1
  obtain ⟨m, d, hx, _, hlt⟩ := part_num (beq_iff_eq.1 h0) h1.1 h1.2
  obtain ⟨p, mp, dp, hp, hn, hle⟩ := part_mul hx hlt hs
  have e : floF x s = mp / 2 ^ dp := by
    unfold floF
    rw [hp]
    unfold NumW at hn
    simp only [hn]
    rw [show (-(-(dp : Int))).toNat = dp by omega]
  refine ⟨p, mp, dp, hp, hn, hle, e, ?_⟩
  rw [e]
  exact Nat.div_le_of_le_mul (by rw [Nat.mul_comm]; exact hle)
theorem cmp_gt (t1 t2 : Operand) (T : TypeId) (x y : Nat) (w : World) : ((do eqGuard BinOp.gtr T t1 t2 (.float .f64 x) (.float .f64 y); binOp BinOp.gtr T (.float .f64 x) (.float .f64 y) : Sem Value)).run Tryz.prog w = .ok (.bool (double.order x y == some .gt)) w := by
  simp [eqGuard, binOp, Op.floatCmp, FloatKind.format]
theorem cmp_ge (t1 t2 : Operand) (T : TypeId) (x y : Nat) (w : World) : ((do eqGuard BinOp.geq T t1 t2 (.float .f64 x) (.float .f64 y); binOp BinOp.geq T (.float .f64 x) (.float .f64 y) : Sem Value)).run Tryz.prog w = .ok (.bool (double.order x y == some .gt || double.order x y == some .eq)) w := by
  simp [eqGuard, binOp, Op.floatCmp, FloatKind.format]
theorem mul_run (t1 t2 : Operand) (T : TypeId) {x y p : Nat} (h : double.mul x y = some p) (w : World) : ((do eqGuard BinOp.mul T t1 t2 (.float .f64 x) (.float .f64 y); binOp BinOp.mul T (.float .f64 x) (.float .f64 y) : Sem Value)).run Tryz.prog w = .ok (.float .f64 p) w := by
  simp [eqGuard, binOp, Op.floatArith, FloatKind.format, h]
theorem toF_run (n : Nat) (w : World) : (convert 3 33 (.int .i64 n)).run Tryz.prog w = .ok (.float .f64 (fw n)) w := by
  have h : FloatKind.f64.nearest (n : Int) = fw n := by
    unfold FloatKind.nearest FloatKind.encode FloatKind.format
    rw [decide_eq_false (show ¬ (n : Int) < 0 by omega), Int.natAbs_natCast]
    rfl
  simp [convert, run_underlying Tryz.underlying3, run_underlying Tryz.underlying33, Conv.intToFloat, h]
theorem toI_run {n : Nat} (hn : n ≤ 10001) (w : World) : (convert 33 3 (.float .f64 (fw n))).run Tryz.prog w = .ok (.int .i64 n) w := by
  have h : (FloatKind.f64.decode (fw n)).toInt .zero = some (n : Int) := fw_int hn
  have hr : IntKind.i64.min ≤ (n : Int) ∧ (n : Int) ≤ IntKind.i64.max := by
    have h1 : IntKind.i64.min = -9223372036854775808 := by decide
    have h2 : IntKind.i64.max = 9223372036854775807 := by decide
    omega
  simp [convert, run_underlying Tryz.underlying3, run_underlying Tryz.underlying33, Conv.floatToInt, h, hr]
  intro h2; omega
theorem fl_name : (Tryz.f274.name == "runtime.NumGoroutine") = false := by kernel_rfl
theorem fl_body : Tryz.f274.body.isNone = true := by kernel_rfl
theorem fl_next : Extern.findNext Tryz.f274 = none := by kernel_rfl
theorem fl_find : Extern.find Tryz.f274 = some (Extern.MathFloor.toIntegral "math.archFloor" .down) := by kernel_rfl
theorem floor_val {p m : Nat} {e : Int} (hd : FloatKind.f64.decode p = .number false m e) : Extern.MathFloor.toIntegral "math.archFloor" .down #[.float .f64 p] = pure (.float .f64 (FloatKind.f64.encode ((Datum.number false m e).integral .down))) := by
  unfold Extern.MathFloor.toIntegral
  generalize FloatKind.decode FloatKind.f64 = D at hd ⊢
  conv => lhs; whnf
  rw [hd]
theorem floor_spec {p mp dp : Nat} (hp : NumW p mp dp) (hw : Sat R Hs w) : Gets Tryz.prog 260 #[.float .f64 p] w fun v w' => v = .float .f64 (fw (mp / 2 ^ dp)) ∧ Sat R Hs w' := by
  apply call260
  refine ⟨.float .f64 (fw (mp / 2 ^ dp)), w, ?_, _, rfl, rfl, hw⟩
  rw [run_callFunc_extern Tryz.func274 fl_name fl_body fl_next fl_find]
  have hd : FloatKind.f64.decode p = .number false mp (-(dp : Int)) := hp
  have hf : FloatKind.f64.encode ((Datum.number false mp (-(dp : Int))).integral .down) = fw (mp / 2 ^ dp) := by
    have := floor_word hp
    rw [show double.read p = .number false mp (-(dp : Int)) from hp] at this
    exact this
  rw [floor_val hd, hf]
  rfl
theorem level_spec {x : Nat} {s : Int} (hw : Sat R Hs w) : Gets Tryz.prog 227 #[.float .f64 x, .int .i64 s] w fun v w' => v = .tuple #[.int .i64 (levelT x s).1, .int .i64 (levelT x s).2] ∧ Sat R Hs w' := by
  apply call227
  refine ⟨fun t w => t = decide (s < 0 ∨ s > 10000) ∧ Sat R Hs w, Br.d (fun h => ⟨by rw [decide_eq_true (.inl h)], hw⟩) (fun h => ⟨by rw [decide_eq_decide]; omega, hw⟩), ?_⟩
  clear hw
  rintro _ _ w ⟨rfl, hw⟩
  unfold levelT
  refine Br.d (fun h => ⟨by rw [if_pos h], hw⟩) (fun h => ?_)
  rw [if_neg h]
  refine ⟨isGt x, fun w' e => cmp_gt _ _ _ _ _ _, Br.nb (fun h1 => ⟨by rw [if_pos h1], hw⟩) (fun h1 => ?_)⟩
  rw [if_neg (by rw [h1]; simp)]
  refine ⟨isGe1 x, fun w' e => cmp_ge _ _ _ _ _ _, Br.mk (fun h2 => ⟨by rw [if_pos h2], hw⟩) (fun h2 => ?_)⟩
  rw [if_neg (by rw [h2]; simp)]
  obtain ⟨n, rfl⟩ := Int.eq_ofNat_of_zero_le (show 0 ≤ s by omega)
  obtain ⟨p, mp, dp, hp, hn, hle, e, he⟩ := flo_out (s := n) h1 h2 (by omega)
  refine ⟨w, _, toF_run n w, _, fun w' _ => mul_run _ _ _ hp w', ?_⟩
  refine (floor_spec hn hw).use ?_
  rintro _ w ⟨rfl, hw⟩
  rw [← e]
  refine ⟨_, rfl, _, fun w' _ => toI_run (by omega) w', ?_, hw⟩
  rw [Int.toNat_natCast]
end Go.Proofs.YtfgbbckfikiomaaGreatDoor
/- The limits that parts give: package nest, reference 14. Condition: none. -/
namespace Go.Proofs.YtfgbbckfikiomaaGreatDoor
set_option linter.unusedVariables false
open Go Go.VC
variable {R : Cx} {Hs Rest : List HP} {w : World}
theorem _root_.Go.VC.Ro.ixF {xs : List Nat} {s : Sl} {S : World → Prop} {i : Int} (hr : Ro R s (xs.map (Value.float .f64))) (hS : ∀ w, S w → Sat R Hs w) (j : Nat) (hi : i = j) (hj : j < xs.length) {F : Nat → Prop} (h : F xs[j]) :
    Rng i s.len (NilP s.a fun a => ∃ t : Nat, (At S (a.add i.toNat) [.float .f64 t]) ∧ F t) := by
  subst hi
  obtain ⟨a, ha, hat⟩ := hr.addr (k := j) (by rw [List.length_map]; exact hj)
  have hl := hr.len
  rw [List.length_map] at hl
  exact Rng.mk (by omega) (by omega) (NilP.mk ha ⟨_, by have := hat hS; rw [List.getElem_map] at this; exact this, h⟩)
def limGo (s : Int) : Int → List Nat → List Int
  | _, [] => []
  | last, x :: xs => (if last < (levelT x s).1 then last else (levelT x s).1) :: limGo s (if last < (levelT x s).1 then last else (levelT x s).1) xs
def limitsT (s : Int) (parts : List Nat) : List Int × Int := if s < 0 ∨ s > 10000 ∨ parts.length < 1 ∨ parts.length > 8 then ([], 1) else (s :: limGo s s parts.tail, 0)
theorem limGo_len (s : Int) : ∀ (xs : List Nat) (last : Int), (limGo s last xs).length = xs.length
  | [], _ => rfl
  | x :: xs, last => by simp [limGo, limGo_len s xs]
theorem limGo_snoc (s : Int) : ∀ (xs : List Nat) (last : Int) (x : Nat), limGo s last (xs ++ [x]) = limGo s last xs ++
    [if (last :: limGo s last xs).getD xs.length 0 < (levelT x s).1 then (last :: limGo s last xs).getD xs.length 0 else (levelT x s).1]
  | [], last, x => by simp [limGo]
  | y :: xs, last, x => by
    simp only [List.cons_append, limGo, limGo_snoc s xs, List.length_cons, List.getD_cons_succ]
abbrev flts (l : List Nat) : List Value := l.map (Value.float .f64)
abbrev intsI (l : List Int) : List Value := l.map (Value.int .i64)
theorem limits_spec {s : Int} {sp : Sl} {parts : List Nat} (hp : SlR R.m sp (flts parts)) (hw : Sat R Hs w) :
    Gets Tryz.prog 177 #[.int .i64 s, .slice sp.a sp.len sp.cap] w fun v w' => ∃ t : Sl, v = .tuple #[.slice t.a t.len t.cap, .int .i64 (limitsT s parts).2] ∧ Sat R (Own t 3 (intsI (limitsT s parts).1) :: Hs) w' := by
  have hlen := hp.len
  rw [List.length_map] at hlen
  have bad : (s < 0 ∨ s > 10000 ∨ parts.length < 1 ∨ parts.length > 8) → ∀ w, Sat R Hs w → ∃ t : Sl, Value.tuple #[.slice none 0 0, .int .i64 1] = .tuple #[.slice t.a t.len t.cap, .int .i64 (limitsT s parts).2] ∧ Sat R (Own t 3 (intsI (limitsT s parts).1) :: Hs) w := fun h w hw => by
    unfold limitsT; rw [if_pos h]; exact ⟨⟨none, 0, 0⟩, rfl, Own.nil hw⟩
  apply call177
  refine ⟨fun w => (0 ≤ s ∧ s ≤ 10000 ∧ 1 ≤ parts.length ∧ parts.length ≤ 8) ∧ Sat R Hs w, ?_, ?_⟩
  · refine (within_spec hw).use ?_
    rintro _ w ⟨rfl, hw⟩
    unfold inR
    refine ⟨_, rfl, Br.nd (fun h => bad (by omega) _ hw) (fun h1 => Br.d (fun h => bad (by omega) _ hw) (fun h2 => Br.d (fun h => bad (by omega) _ hw) (fun h3 => ⟨⟨by omega, by omega, by omega, by omega⟩, hw⟩)))⟩
  clear hw
  rintro _ w ⟨⟨h1, h2, h3, h4⟩, hw⟩
  have e : limitsT s parts = (s :: limGo s s parts.tail, 0) := by unfold limitsT; rw [if_neg (by omega)]
  rw [e]
  clear bad
  refine new_rule hw fun b w hw => ⟨by omega, by omega, ?_⟩
  have hw : Sat R (Own ⟨some ⟨b, 0, none⟩, 1, 1⟩ 3 (intsI [s]) :: Hs) w := own_lit hw
  have hd := (hp.drop (k := 1) (by rw [List.length_map]; omega)).ro (by rw [List.length_drop, List.length_map]; omega)
  have hdl : (flts parts).drop 1 = flts parts.tail := by simp [flts, List.drop_one, List.map_tail]
  rw [hdl] at hd
  have htl : parts.tail.length = parts.length - 1 := List.length_tail
  have hslen : (sp.len - Int.toNat 1 : Nat) = parts.tail.length := by rw [htl]; show sp.len - 1 = _; omega
  refine ⟨fun so i w => ∃ j : Nat, i = j ∧ j ≤ parts.tail.length ∧ Sat R (Own so 3 (intsI (s :: limGo s s (parts.tail.take j))) :: Hs) w, fun _ i _ => parts.tail.length - i.toNat, ⟨0, rfl, by omega, hw⟩, ?_⟩
  clear hw
  rintro _ so _ w ⟨j, rfl, hj, hw⟩
  refine Br.d (fun h => ?_) (fun h => ?_)
  · have hj2 : j < parts.tail.length := by omega
    refine Ro.ixF hd (eqS hw) j rfl hj2 ?_
    refine (level_spec hw).use ?_
    rintro _ w ⟨rfl, hw⟩
    refine ⟨_, _, rfl, ?_⟩
    have hl : (s :: limGo s s (parts.tail.take j)).length = j + 1 := by rw [List.length_cons, limGo_len, List.length_take]; omega
    refine Own.ix hw (eqS hw) j rfl (by omega) ?_
    refine pushI_rule elI8 hw (by omega) fun so' w hw => ?_
    rw [wrap64 (by omega) (by omega)]
    refine ⟨⟨j + 1, by omega, by omega, ?_⟩, by dsimp only; omega⟩
    rw [List.take_add_one, List.getElem?_eq_getElem hj2]
    simp only [Option.toList_some]
    rw [limGo_snoc, List.length_take, show min j parts.tail.length = j by omega, getD_lt (by omega)]
    exact hw
  · rw [List.take_of_length_le (by omega)] at hw
    exact ⟨so, rfl, hw⟩
theorem limGo_ok (s : Int) (h0 : 0 ≤ s) (h1 : s ≤ 10000) : ∀ (xs : List Nat) (last : Int), 0 ≤ last → last ≤ 10000 → ∀ k (h : k < (limGo s last xs).length), (0 ≤ (limGo s last xs)[k] ∧ (limGo s last xs)[k] ≤ 10000) ∧ (limGo s last xs)[k] ≤ (last :: limGo s last xs).getD k 0
  | [], last, _, _, k, h => by simp [limGo] at h
  | x :: xs, last, a, b, k, h => by
    have hlv : 0 ≤ (levelT x s).1 := by
      unfold levelT
      split
      · simp
      · split
        · simp
        · split
          · exact h0
          · simp
    rcases k with _ | k
    · simp only [limGo, List.getElem_cons_zero, List.getD_cons_zero]
      split <;> omega
    · simp only [limGo, List.getElem_cons_succ, List.getD_cons_succ]
      exact limGo_ok s h0 h1 xs _ (by split <;> omega) (by split <;> omega) k (by simpa [limGo] using h)
theorem limits_ok {s : Int} {parts : List Nat} (h : (limitsT s parts).2 = 0) : limOk (limitsT s parts).1 = true ∧ (limitsT s parts).1.getD 0 0 = s := by
  unfold limitsT at *
  split at h
  · simp at h
  · rename_i hn
    rw [if_neg hn]
    refine ⟨limOk_iff.2 ⟨⟨by simp, ?_⟩, fun k hk => ?_⟩, rfl⟩
    · simp only [List.length_cons, limGo_len, List.length_tail]; omega
    · rcases k with _ | k
      · simp; omega
      · have := limGo_ok s (by omega) (by omega) parts.tail s (by omega) (by omega) k (by simpa using hk)
        simp only [List.getElem_cons_succ]
        exact ⟨this.1, fun _ => by rw [show k + 1 - 1 = k by omega]; exact this.2⟩
end Go.Proofs.YtfgbbckfikiomaaGreatDoor
