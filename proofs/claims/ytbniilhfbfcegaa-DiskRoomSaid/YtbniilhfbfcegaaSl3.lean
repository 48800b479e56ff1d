/- SL, part 3: rules for stores, for a slice that one owns, for append. Condition of the last: a bound on the new length. -/
import Derived.Test.YtbniilhfbfcegaaSl2
import Derived.Deep.AppendSrc
import Derived.Deep.DeepAppendWide
import Derived.Laws.AppendOwn
import Derived.Laws.IdiomCopy
namespace Go.VC

/-- vs put into l from o on. -/
def putL : List Value → Nat → List Value → List Value
  | l, _, [] => l
  | l, o, v :: vs => putL (l.set o v) (o + 1) vs

theorem putL_len : ∀ (vs l : List Value) (o : Nat), (putL l o vs).length = l.length
  | [], _, _ => rfl
  | _ :: vs, l, o => by rw [putL, putL_len vs, List.length_set]

theorem putL_eq : ∀ (vs l : List Value) (o : Nat), o + vs.length ≤ l.length → putL l o vs = l.take o ++ vs ++ l.drop (o + vs.length)
  | [], l, o, _ => by simp [putL]
  | v :: vs, l, o, h => by
    simp only [List.length_cons] at h
    rw [putL, putL_eq vs (l.set o v) (o + 1) (by simp; omega)]
    have e1 : (l.set o v).take (o + 1) = l.take o ++ [v] := by
      rw [List.take_succ_eq_append_getElem (by simp; omega)]
      simp [List.take_set_of_le]
    have e2 : (l.set o v).drop (o + 1 + vs.length) = l.drop (o + (vs.length + 1)) := by
      rw [List.drop_set_of_lt (by omega)]; congr 1; omega
    rw [e1, e2]; simp

theorem setCell_block {w : World} {b o : Nat} {l : List Value} {T : TypeId} {fr : Nat × Nat} (h : w.heap[b]? = some (.cells l.toArray T fr)) (v : Value) :
    w.setCell ⟨b, o, none⟩ v = w.setBlock b (.cells (l.set o v).toArray T fr) := by
  unfold World.setCell World.setBlock
  congr 1
  apply Array.ext_getElem?
  intro i
  rw [Array.getElem?_modify, Array.getElem?_setIfInBounds]
  by_cases hi : b = i
  · subst hi
    obtain ⟨hlt, hg⟩ := Array.getElem?_eq_some_iff.1 h
    simp [hlt, hg]
  · simp [hi]

theorem setBlock_setBlock (w : World) (b : Nat) (o o' : Obj) : (w.setBlock b o).setBlock b o' = w.setBlock b o' := by
  unfold World.setBlock; simp

theorem setCells_sat {R : Cx} {Hs : List HP} {b : Nat} {T : TypeId} {fr : Nat × Nat} : ∀ (vs l : List Value) (o : Nat) (w : World), Sat R (pts b (.cells l.toArray T fr) :: Hs) w →
    Sat R (pts b (.cells (putL l o vs).toArray T fr) :: Hs) (w.setCells b o vs)
  | [], _, _, _, h => h
  | v :: vs, l, o, w, h => by
    rw [World.setCells, setCell_block h.at, putL]
    exact setCells_sat vs (l.set o v) (o + 1) _ (h.setPts _)

/-- None of n cells is marked as a string's. -/
def okFr (n : Nat) (fr : Nat × Nat) : Prop := fr.2 = 0 ∨ n ≤ fr.1
theorem okFr.le {n m : Nat} {fr : Nat × Nat} (h : okFr n fr) (hm : m ≤ n) : okFr m fr := h.imp id fun h => Nat.le_trans hm h

theorem frozen_no {w : World} {b : Nat} {l : Array Value} {T : TypeId} {fr : Nat × Nat} {n : Nat} (h : w.heap[b]? = some (.cells l T fr)) (hf : okFr n fr) {i : Nat} (hi : i < n) : w.frozen? ⟨b, i, none⟩ = false := by
  obtain ⟨lo, hi'⟩ := fr
  simp only [World.frozen?, h]
  rcases hf with hf | hf <;> simp only at hf <;> simp <;> omega

/-- What a store wants of a value: its cells, none of them with parts. -/
def oneAll (vs : List Value) : Bool := vs.all (·.oneCell')

/-- A store of a value of so many cells into a block of one's own. -/
theorem store_rule {P : Program} {R : Cx} {Hs Rest : List HP} {w : World} {b o : Nat} {l : List Value} {T t : TypeId} {fr : Nat × Nat} {v : Value} {K : World → Prop}
    (hw : Sat R Hs w) [tk : TakeP b Hs (.cells l.toArray T fr) Rest] (hsz : (P.info? t).map (·.size) = some v.cells.toList.length) (h1 : oneAll v.cells.toList = true) (hb : o + v.cells.toList.length ≤ l.length)
    (k : ∀ w', Sat R (pts b (.cells (putL l o v.cells.toList).toArray T fr) :: Rest) w' → K w') (hfr : okFr l.length fr := by first | assumption | exact Or.inl rfl) :
    ∃ w', (Instr.storeAt t (.pointer (some ⟨b, o, none⟩)) v).run P w = .ok () w' ∧ K w' := by
  have hp := hw.takeP tk
  have hat := hp.at
  obtain ⟨i, hi, hsz⟩ := Option.map_eq_some_iff.1 hsz
  refine ⟨w.setCells b o v.cells.toList, ?_, k _ (setCells_sat _ _ _ _ hp)⟩
  have hst := run_storeCells_cells (P := P) b o v.cells.toList 0 w (fun j hj => by
      simp only [Nat.add_zero]
      rw [cell_of hat]; simp; omega) (fun j hj => frozen_no hat hfr (by omega)) (fun u hu => List.all_eq_true.1 h1 u hu)
  simp only [Nat.add_zero] at hst
  simp [Instr.storeAt, Instr.sureAddr, storeVar, sizeOf, typeInfo, hi, hsz, hst]

/-! ### A slice that one owns: all of its array -/

/-- The slice s, over an array of one's own (cells of type T), holds xs. -/
def Own (s : Sl) (T : TypeId) (xs : List Value) : HP := fun h =>
  (s = ⟨none, 0, 0⟩ ∧ xs = [] ∧ h = Heap.none) ∨ ∃ b rest fr, s = ⟨some ⟨b, 0, none⟩, xs.length, (xs ++ rest).length⟩ ∧ okFr (xs ++ rest).length fr ∧ h = Heap.one b (.cells (xs ++ rest).toArray T fr)

theorem Own.nil {R : Cx} {Hs : List HP} {w : World} {T : TypeId} (h : Sat R Hs w) : Sat R (Own ⟨none, 0, 0⟩ T [] :: Hs) w :=
  ⟨Heap.none, .inl ⟨rfl, rfl, rfl⟩, fun i hi => absurd rfl hi, by rw [Cx.add_none]; exact h⟩

theorem Own.of_pts {R : Cx} {Hs : List HP} {w : World} {T : TypeId} {b : Nat} {fr : Nat × Nat} {xs rest : List Value} (h : Sat R (pts b (.cells (xs ++ rest).toArray T fr) :: Hs) w) (hf : okFr (xs ++ rest).length fr := by first | assumption | exact Or.inl rfl) :
    Sat R (Own ⟨some ⟨b, 0, none⟩, xs.length, (xs ++ rest).length⟩ T xs :: Hs) w :=
  let ⟨a, ha, hd, hs⟩ := h; ⟨a, .inr ⟨b, rest, fr, rfl, hf, ha⟩, hd, hs⟩

theorem Own.cases {R : Cx} {Hs : List HP} {w : World} {T : TypeId} {s : Sl} {xs : List Value} (h : Sat R (Own s T xs :: Hs) w) :
    (s = ⟨none, 0, 0⟩ ∧ xs = [] ∧ Sat R Hs w) ∨ ∃ b rest fr, s = ⟨some ⟨b, 0, none⟩, xs.length, (xs ++ rest).length⟩ ∧ okFr (xs ++ rest).length fr ∧ Sat R (pts b (.cells (xs ++ rest).toArray T fr) :: Hs) w := by
  obtain ⟨a, ha, hd, hs⟩ := h
  rcases ha with ⟨h1, h2, rfl⟩ | ⟨b, rest, fr, h1, hf, rfl⟩
  · rw [Cx.add_none] at hs; exact .inl ⟨h1, h2, hs⟩
  · exact .inr ⟨b, rest, fr, h1, hf, _, rfl, hd, hs⟩

theorem Own.len {R : Cx} {Hs : List HP} {w : World} {T : TypeId} {s : Sl} {xs : List Value} (h : Sat R (Own s T xs :: Hs) w) : s.len = xs.length := by
  rcases Own.cases h with ⟨rfl, rfl, _⟩ | ⟨b, rest, fr, rfl, _, _⟩ <;> rfl

/-- It may be lent out to those who only read. -/
theorem Own.lend {R : Cx} {Hs : List HP} {w : World} {T : TypeId} {s : Sl} {xs : List Value} (h : Sat R (Own s T xs :: Hs) w) (hb : xs.length ≤ 9223372036854775807) :
    ∃ R' : Cx, Ro R' s xs ∧ (∀ s' xs', Ro R s' xs' → Ro R' s' xs') ∧ Sat R' Hs w ∧ ∀ {Hs' w'}, Sat R' Hs' w' → Sat R (Own s T xs :: Hs') w' := by
  rcases Own.cases h with ⟨rfl, rfl, h2⟩ | ⟨b, rest, fr, rfl, hf, h2⟩
  · exact ⟨R, ⟨rfl, by simp, fun h => absurd rfl h⟩, fun _ _ h => h, h2, fun h => Own.nil h⟩
  · obtain ⟨hn, h3⟩ := Sat.lend.1 h2
    refine ⟨_, ⟨rfl, hb, fun _ => ⟨b, 0, _, T, fr, rfl, Cx.lent hn, fun i v hv => ?_⟩⟩, fun _ _ h => h.add, h3, fun h => Own.of_pts (Sat.lend.2 ⟨hn, h⟩)⟩
    obtain ⟨hi, rfl⟩ := List.getElem?_eq_some_iff.1 hv
    simp [List.getElem?_append_left hi]

/-- The type's size is one cell; its bytes; its zero is one cell. -/
def elB (P : Program) (T : TypeId) (bytes : Nat) : Bool :=
  match P.info? T with
  | some i => match i.zero with
    | some z => i.size == 1 && i.bytes == bytes && z.cells.size == 1
    | none => false
  | none => false
theorem elB_out {P : Program} {T : TypeId} {bytes : Nat} (h : elB P T bytes = true) : ∃ i z, P.info? T = some i ∧ i.zero = some z ∧ i.size = 1 ∧ i.bytes = bytes ∧ z.cells.size = 1 := by
  unfold elB at h
  split at h
  · rename_i i hi
    split at h
    · rename_i z hz
      simp only [Bool.and_eq_true, beq_iff_eq] at h
      exact ⟨i, z, hi, hz, h.1.1, h.1.2, h.2⟩
    · cases h
  · cases h

/-- What is known of the element type of a slice type. -/
structure El (P : Program) (t1 t2 T : TypeId) (bytes : Nat) : Prop where
  ht : P.underlying t1 = some (.slice T)
  hk : ∃ e', P.underlying t2 = some (.slice e')
  hi : elB P T bytes = true

theorem append_rule {P : Program} {t1 t2 ty T : TypeId} {bytes : Nat} (E : El P t1 t2 T bytes) {R : Cx} {Hs : List HP} {w : World} {s : Sl} {xs ys : List Value} {src : Value} {n : Nat} {K : Sl → World → Prop}
    (hw : Sat R (Own s T xs :: Hs) w) (hs : Src P 1 t2 src n ys w) (h1 : oneAll xs = true) (hb : 2 * (xs.length + n) * bytes ≤ 281474976710656) (hb' : xs.length + n ≤ 9223372036854775807)
    (k : ∀ s' w', Sat R (Own s' T (xs ++ ys) :: Hs) w' → K s' w') :
    ∃ w', ∃ t : Sl, (Builtin.append_ #[t1, t2] ty #[.slice s.a s.len s.cap, src]).run P w = .ok (.slice t.a t.len t.cap) w' ∧ K t w' := by
  obtain ⟨i, z, hi, hz, hsize, hbytes, hzc⟩ := elB_out E.hi
  have hyn : ys.length = n := by have := hs.newsLen; simpa using this
  have hs' : Src P i.size t2 src n ys w := by rw [hsize]; exact hs
  have hlen := Own.len hw
  have fit : ∀ cap, cap < xs.length + n → Builtin.nextslicecap (xs.length + n) cap * i.bytes ≤ 281474976710656 := fun cap hc => by
    have h2 : Builtin.nextslicecap (xs.length + n) cap ≤ 2 * (xs.length + n) := by
      unfold Builtin.nextslicecap
      split
      · omega
      · split
        · omega
        · have := nextslicecap_le_wide hc
          unfold Builtin.nextslicecap at this
          rw [if_neg (by assumption), if_neg (by assumption)] at this
          omega
    rw [hbytes]
    exact Nat.le_trans (Nat.mul_le_mul_right _ h2) hb
  -- a new row
  have grow : ∀ (base : Option Addr) (cap : Nat) (olds : List Value), olds = xs → cap < xs.length + n → (Builtin.firstCells i.size xs.length (.slice base xs.length cap)).run P w.drew = .ok olds.toArray w.drew → Sat R Hs w →
      ∃ w', ∃ t : Sl, (Builtin.append_ #[t1, t2] ty #[.slice base xs.length cap, src]).run P w = .ok (.slice t.a t.len t.cap) w' ∧ K t w' := fun base cap olds ho hc hold hw => by
    have hr := run_append_grow_src w t1 t2 ty T i z E.ht hi hz base xs.length cap olds hold src n ys hs' hc (by omega) (fit cap hc)
    refine ⟨_, ⟨some ⟨w.heap.size, 0, none⟩, xs.length + n, grownCap w (xs.length + n) cap T⟩, hr, k _ _ ?_⟩
    have hz0 : (Builtin.zeroCells z.cells (grownCap w (xs.length + n) cap T - (xs.length + n))).size = grownCap w (xs.length + n) cap T - (xs.length + n) := by
      simp [Builtin.zeroCells, hzc]
    have hg := grownCap_ge w (xs.length + n) cap T
    have ho' : Obj.cells ((olds ++ ys).toArray ++ Builtin.zeroCells z.cells (grownCap w (xs.length + n) cap T - (xs.length + n))) T = .cells ((xs ++ ys) ++ (Builtin.zeroCells z.cells (grownCap w (xs.length + n) cap T - (xs.length + n))).toList).toArray T (0, 0) := by
      rw [ho]
      congr 1
      apply Array.ext'; simp
    have := Sat.alloc (Obj.cells ((olds ++ ys).toArray ++ Builtin.zeroCells z.cells (grownCap w (xs.length + n) cap T - (xs.length + n))) T) (Sat.drew hw)
    rw [ho'] at this ⊢
    have h3 := Own.of_pts this
    have e : (⟨some ⟨w.drew.heap.size, 0, none⟩, (xs ++ ys).length, (xs ++ ys ++ (Builtin.zeroCells z.cells (grownCap w (xs.length + n) cap T - (xs.length + n))).toList).length⟩ : Sl) = ⟨some ⟨w.heap.size, 0, none⟩, xs.length + n, grownCap w (xs.length + n) cap T⟩ := by
      simp only [List.length_append, Array.length_toList, hz0, World.size_drew, hyn]
      congr 1
      omega
    rw [e] at h3
    exact h3
  rcases Own.cases hw with ⟨rfl, rfl, hz2⟩ | ⟨b, rest, fr, rfl, hfr, hp⟩
  · by_cases hn0 : n = 0
    · subst hn0
      have hy : ys = [] := List.length_eq_zero_iff.1 hyn
      subst hy
      obtain ⟨e', he'⟩ := E.hk
      refine ⟨w, ⟨none, 0, 0⟩, ?_, k _ _ (by simpa using Own.nil hz2)⟩
      have hcz := hs'.cells
      simp [Builtin.append_, run_underlying E.ht, run_underlying he', sizeOf, typeInfo, hi, hs'.len, hcz]
    · exact grow none 0 [] rfl (by simp; omega) (run_firstCells_none w.drew i.size 0 0 0) hz2
  · by_cases hroom : xs.length + n ≤ (xs ++ rest).length
    · have hat := hp.at
      have hr := run_append_room_src w t1 t2 ty T i E.ht hi b 0 xs.length (xs ++ rest).length src n ys hs' hroom
        (fun j hj => by rw [cell_of hat, hsize]; simp at hroom ⊢; omega) (fun j hj => frozen_no hat hfr (by rw [hsize, Nat.mul_one]; simp only [List.length_append] at hroom ⊢; omega))
      refine ⟨_, ⟨some ⟨b, 0, none⟩, xs.length + n, (xs ++ rest).length⟩, hr, k _ _ ?_⟩
      have h2 := setCells_sat ys (xs ++ rest) xs.length w hp
      have e1 : putL (xs ++ rest) xs.length ys = (xs ++ ys) ++ rest.drop n := by
        rw [putL_eq _ _ _ (by rw [hyn]; exact hroom), List.take_left', List.drop_append]
        · simp [hyn]
        · rfl
      rw [e1] at h2
      rw [hsize, Nat.zero_add, Nat.mul_one]
      have h3 := Own.of_pts h2 (hfr.le (by simp only [List.length_append, List.length_drop] at hroom ⊢; omega))
      have e : (⟨some ⟨b, 0, none⟩, (xs ++ ys).length, (xs ++ ys ++ rest.drop n).length⟩ : Sl) = ⟨some ⟨b, 0, none⟩, xs.length + n, (xs ++ rest).length⟩ := by
        simp only [List.length_append, List.length_drop, hyn] at hroom ⊢
        congr 1
        omega
      rw [e] at h3
      exact h3
    · have hat := hp.at
      refine grow (some ⟨b, 0, none⟩) (xs ++ rest).length xs rfl (by omega) ?_ hp.drop
      refine run_firstCells_some w.drew i.size xs.length ⟨b, 0, none⟩ xs.length _ xs (by rw [hsize]; simp) ?_
      intro j u hj
      rw [World.cell?_drew, add_off, cell_of hat, Nat.zero_add]
      obtain ⟨hlt, rfl⟩ := List.getElem?_eq_some_iff.1 hj
      simp [List.getElem?_append_left hlt]

/-- The source of 'append(s, x)': the one cell that was made for it. -/
theorem Src_one {P : Program} {t2 : TypeId} (hk : ∃ e', P.underlying t2 = some (.slice e')) {R : Cx} {Hs Rest : List HP} {w : World} {b : Nat} {x : Value} {T : TypeId} {fr : Nat × Nat} (c : Nat)
    (hw : Sat R Hs w) [t : TakeP b Hs (.cells [x].toArray T fr) Rest] (h1 : x.oneCell' = true) : Src P 1 t2 (.slice (some ⟨b, 0, none⟩) 1 c) 1 [x] w := by
  obtain ⟨e', he'⟩ := hk
  refine Go.Src.ofSlice w he' _ 1 c [x] rfl ?_ ?_
  · intro j u hj
    have := hw.look b
    rw [add_off, cell_of this]; simpa using hj
  · intro u hu; simp at hu; subst hu; exact h1

/-- 'append(s, x)'. -/
theorem push_rule {P : Program} {t1 t2 ty T T' : TypeId} {bytes : Nat} (E : El P t1 t2 T bytes) {R : Cx} {Hs : List HP} {w : World} {s : Sl} {xs : List Value} {x : Value} {K : Sl → World → Prop}
    (hw : Sat R (Own s T xs :: Hs) w) (h1 : oneAll xs = true) (hx : x.oneCell' = true) (hb : 2 * (xs.length + 1) * bytes ≤ 281474976710656) (hb' : xs.length + 1 ≤ 9223372036854775807)
    (k : ∀ s' w', Sat R (Own s' T (xs ++ [x]) :: Hs) w' → K s' w') :
    New (.cells #[x] T' (0, 0)) (fun b w => ∃ w', ∃ t : Sl, (Builtin.append_ #[t1, t2] ty #[.slice s.a s.len s.cap, .slice (some ⟨b, 0, none⟩) 1 1]).run P w = .ok (.slice t.a t.len t.cap) w' ∧ K t w') w := by
  refine new_rule hw fun b w hw => ?_
  have hw : Sat R (pts b (.cells [x].toArray T' (0, 0)) :: Own s T xs :: Hs) w := hw
  exact append_rule E hw.swap (Src_one E.hk 1 hw hx) h1 hb hb' fun s' w' h => k s' w' h.swap.drop

/-- .. of ints. -/
theorem pushI_rule {P : Program} {t1 t2 ty T T' : TypeId} (E : El P t1 t2 T 8) {R : Cx} {Hs : List HP} {w : World} {s : Sl} {xs : List Int} {x : Int} {K : Sl → World → Prop}
    (hw : Sat R (Own s T (xs.map (Value.int .i64)) :: Hs) w) (hb : xs.length < 1000000000000)
    (k : ∀ s' w', Sat R (Own s' T ((xs ++ [x]).map (Value.int .i64)) :: Hs) w' → K s' w') :
    New (.cells #[.int .i64 x] T' (0, 0)) (fun b w => ∃ w', ∃ t : Sl, (Builtin.append_ #[t1, t2] ty #[.slice s.a s.len s.cap, .slice (some ⟨b, 0, none⟩) 1 1]).run P w = .ok (.slice t.a t.len t.cap) w' ∧ K t w') w :=
  push_rule E hw (by unfold oneAll; simp [Value.oneCell']) rfl (by rw [List.length_map]; omega) (by rw [List.length_map]; omega) fun s' w' h => k s' w' (by simpa using h)

end Go.VC
