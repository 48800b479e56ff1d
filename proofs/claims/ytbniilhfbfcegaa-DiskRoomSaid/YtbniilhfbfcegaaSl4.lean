/- SL, part 4: what a sort leaves; elements of a row of ints of one's own. No condition. -/
import Derived.Test.YtbniilhfbfcegaaSl3
import Derived.Sort.Grow
namespace Go.VC

theorem Sat.grows {R : Cx} {Hs : List HP} : ∀ (os : List Obj) {w : World}, Sat R Hs w → Sat R Hs (Go.Sort.grow w os.toArray)
  | [], w, h => by simpa using h
  | o :: os, w, h => by
    have h1 := Sat.grows os (Sat.alloc o h).drop
    rw [Go.Sort.alloc_eq_grow, Go.Sort.grow_grow] at h1
    have e : (#[o] ++ os.toArray : Array Obj) = (o :: os).toArray := by simp
    rw [e] at h1; exact h1

theorem mapBlock_at {w : World} {b : Nat} {l : Array Value} {T : TypeId} {fr : Nat × Nat} (h : w.heap[b]? = some (.cells l T fr)) (f : Array Value → Array Value) :
    Go.Sort.mapBlock w b f = w.setBlock b (.cells (f l) T fr) := by
  unfold Go.Sort.mapBlock World.setBlock
  congr 1
  apply Array.ext_getElem?
  intro i
  rw [Array.getElem?_modify, Array.getElem?_setIfInBounds]
  by_cases hi : b = i
  · subst hi
    obtain ⟨hlt, hg⟩ := Array.getElem?_eq_some_iff.1 h
    simp [hlt, hg, Go.Sort.onCells]
  · simp [hi]

/-- A row of cells, put over the head of a block of one's own. -/
theorem putRow_sat {R : Cx} {Hs : List HP} {w : World} {b : Nat} {T : TypeId} {fr : Nat × Nat} {α : Type} [Inhabited α] (enc : α → Value) {xs ys : List α} {rest : List Value} (hl : ys.length = xs.length)
    (hw : Sat R (pts b (.cells (xs.map enc ++ rest).toArray T fr) :: Hs) w) (n : Nat) (os : Array Obj) :
    Sat R (pts b (.cells (ys.map enc ++ rest).toArray T fr) :: Hs) (Go.Sort.grow (Go.Sort.putRow enc (Go.Sort.ahead w n) b 0 ys.toArray) os) := by
  have h0 : Sat R (pts b (.cells (xs.map enc ++ rest).toArray T fr) :: Hs) (Go.Sort.ahead w n) := hw.alk ⟨rfl, rfl, rfl, rfl⟩
  have h1 := h0.setPts (.cells (ys.map enc ++ rest).toArray T fr)
  have e : Go.Sort.putRow enc (Go.Sort.ahead w n) b 0 ys.toArray = (Go.Sort.ahead w n).setBlock b (.cells (ys.map enc ++ rest).toArray T fr) := by
    unfold Go.Sort.putRow
    rw [mapBlock_at h0.at]
    congr 2
    apply Array.ext'
    apply List.ext_getElem?
    intro i
    simp only [Go.Sort.putCells, Array.toList_mapIdx, List.getElem?_mapIdx]
    by_cases hi : i < ys.length
    · have hx : i < xs.length := by omega
      rw [List.getElem?_append_left (by simpa using hx), List.getElem?_append_left (by simpa using hi)]
      simp [hi, hx]
    · have hx : ¬ i < xs.length := by omega
      rw [List.getElem?_append_right (by simp; omega), List.getElem?_append_right (by simp; omega)]
      simp [hl, hx]
  rw [e]
  have := Sat.grows os.toList h1
  simpa using this

theorem At.ints {S : World → Prop} {R : Cx} {Hs Rest : List HP} {b : Nat} {xs : List Int} {T : TypeId} {fr : Nat × Nat} (hS : ∀ w, S w → Sat R Hs w)
    [t : TakeP b Hs (.cells (xs.map (Value.int .i64)).toArray T fr) Rest] {i : Nat} (hi : i < xs.length) : At S (Addr.add ⟨b, 0, none⟩ i) [.int .i64 xs[i]] := by
  rw [add_off]
  refine At.own hS ?_
  rw [Nat.zero_add, List.drop_eq_getElem_cons (by simpa using hi)]
  exact ⟨by simp, trivial⟩

theorem Pre.refl : ∀ l : List Value, Pre l l
  | [] => trivial
  | _ :: l => ⟨rfl, Pre.refl l⟩

theorem oneAll_ints (xs : List Int) : oneAll (xs.map (Value.int .i64)) = true := by
  unfold oneAll; simp [Value.oneCell']

/-- An own row of ints may be lent out. -/
theorem Own.lendI {R : Cx} {Hs : List HP} {w : World} {T : TypeId} {s : Sl} {xs : List Int} (h : Sat R (Own s T (xs.map (Value.int .i64)) :: Hs) w) (hb : xs.length ≤ 9223372036854775807) :
    ∃ R' : Cx, RoI R' s xs ∧ (∀ s' xs', Ro R s' xs' → Ro R' s' xs') ∧ Sat R' Hs w ∧ ∀ {Hs' w'}, Sat R' Hs' w' → Sat R (Own s T (xs.map (Value.int .i64)) :: Hs') w' :=
  Own.lend h (by simpa using hb)

/-- A store into a row of ints of one's own. -/
theorem storeI_rule {P : Program} {R : Cx} {Hs Rest : List HP} {w : World} {b i : Nat} {l : List Int} {T t : TypeId} {kd : IntKind} {x : Int} {K : World → Prop}
    (hsz : (P.info? t).map (·.size) = some 1) (hw : Sat R Hs w) [tk : TakeP b Hs (.cells (l.map (Value.int kd)).toArray T (0, 0)) Rest] (hi : i < l.length)
    (k : ∀ w', Sat R (pts b (.cells ((l.set i x).map (Value.int kd)).toArray T (0, 0)) :: Rest) w' → K w') :
    ∃ w', (Instr.storeAt t (.pointer (some (Addr.add ⟨b, 0, none⟩ i))) (.int kd x)).run P w = .ok () w' ∧ K w' := by
  rw [add_off]
  refine store_rule hw (tk := tk) (by rw [hsz]; rfl) rfl (by simp [Value.cells]; omega) fun w' h => k w' ?_
  have e : putL (l.map (Value.int kd)) (0 + i) (Value.int kd x).cells.toList = (l.set i x).map (Value.int kd) := by
    simp [putL, Value.cells, List.map_set]
  rw [e] at h; exact h

end Go.VC
