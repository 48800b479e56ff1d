/- SL, part 4: what a sort leaves; elements of a row of ints of one's own. No condition. -/
import Derived.Test.YtaacfjdknlglhaaGreatDoorB1
import Derived.Sort.Grow
import Derived.Lib.SliceRun
import GoSem.Instr.MapUpdate
import GoSem.Builtin.Delete
import Derived.MapKept
import Derived.Lib.ConvBytes
import Derived.Laws.BytesArg
import Derived.Laws.Strings
import Derived.Below
import Derived.Sort.KeysCollected
import Derived.Maps.Own
import Derived.Laws.BitsAllLaws
import Derived.Lib.BitFns
import Derived.KernelRfl
import Derived.Lib.AppendZeros
namespace Go.VC
set_option linter.unusedVariables false

theorem Sat.grows {R : Cx} {Hs : List HP} : ∀ (os : List Obj) {w : World}, Sat R Hs w → Sat R Hs (Go.Sort.grow w os.toArray)
  | [], w, h => by simpa using h
  | o :: os, w, h => by
    have h1 := Sat.grows os (Sat.alloc o h).drop
    rw [Go.Sort.alloc_eq_grow, Go.Sort.grow_grow] at h1
    have e : (#[o] ++ os.toArray : Array Obj) = (o :: os).toArray := by simp
    rw [e] at h1; exact h1

theorem mapBlock_at {w : World} {b : Nat} {l : Array Value} {T : TypeId} {fr : Nat × Nat} (h : w.heap[b]? = some (.cells l T fr)) (f : Array Value → Array Value) :
    Go.Sort.mapBlock w b f = w.setBlock b (.cells (f l) T fr) := by
  unfold Go.Sort.mapBlock World.setBlock
  congr 1
  apply Array.ext_getElem?
  intro i
  rw [Array.getElem?_modify, Array.getElem?_setIfInBounds]
  by_cases hi : b = i
  · subst hi
    obtain ⟨hlt, hg⟩ := Array.getElem?_eq_some_iff.1 h
    simp [hlt, hg, Go.Sort.onCells]
  · simp [hi]

/-- A row of cells, put over the head of a block of one's own. -/
theorem putRow_sat {R : Cx} {Hs : List HP} {w : World} {b : Nat} {T : TypeId} {fr : Nat × Nat} {α : Type} [Inhabited α] (enc : α → Value) {xs ys : List α} {rest : List Value} (hl : ys.length = xs.length)
    (hw : Sat R (pts b (.cells (xs.map enc ++ rest).toArray T fr) :: Hs) w) (n : Nat) (os : Array Obj) :
    Sat R (pts b (.cells (ys.map enc ++ rest).toArray T fr) :: Hs) (Go.Sort.grow (Go.Sort.putRow enc (Go.Sort.ahead w n) b 0 ys.toArray) os) := by
  have h0 : Sat R (pts b (.cells (xs.map enc ++ rest).toArray T fr) :: Hs) (Go.Sort.ahead w n) := hw.alk ⟨rfl, rfl, rfl, rfl⟩
  have h1 := h0.setPts (.cells (ys.map enc ++ rest).toArray T fr)
  have e : Go.Sort.putRow enc (Go.Sort.ahead w n) b 0 ys.toArray = (Go.Sort.ahead w n).setBlock b (.cells (ys.map enc ++ rest).toArray T fr) := by
    unfold Go.Sort.putRow
    rw [mapBlock_at h0.at]
    congr 2
    apply Array.ext'
    apply List.ext_getElem?
    intro i
    simp only [Go.Sort.putCells, Array.toList_mapIdx, List.getElem?_mapIdx]
    by_cases hi : i < ys.length
    · have hx : i < xs.length := by omega
      rw [List.getElem?_append_left (by simpa using hx), List.getElem?_append_left (by simpa using hi)]
      simp [hi, hx]
    · have hx : ¬ i < xs.length := by omega
      rw [List.getElem?_append_right (by simp; omega), List.getElem?_append_right (by simp; omega)]
      simp [hl, hx]
  rw [e]
  have := Sat.grows os.toList h1
  simpa using this

theorem At.ints {S : World → Prop} {R : Cx} {Hs Rest : List HP} {b : Nat} {xs : List Int} {T : TypeId} {fr : Nat × Nat} (hS : ∀ w, S w → Sat R Hs w)
    [t : TakeP b Hs (.cells (xs.map (Value.int .i64)).toArray T fr) Rest] {i : Nat} (hi : i < xs.length) : At S (Addr.add ⟨b, 0, none⟩ i) [.int .i64 xs[i]] := by
  rw [add_off]
  refine At.own hS ?_
  rw [Nat.zero_add, List.drop_eq_getElem_cons (by simpa using hi)]
  exact ⟨by simp, trivial⟩

theorem Pre.refl : ∀ l : List Value, Pre l l
  | [] => trivial
  | _ :: l => ⟨rfl, Pre.refl l⟩

theorem oneAll_ints (xs : List Int) : oneAll (xs.map (Value.int .i64)) = true := by
  unfold oneAll; simp [Value.oneCell']

/-- An own row of ints may be lent out. -/
theorem Own.lendI {R : Cx} {Hs : List HP} {w : World} {T : TypeId} {s : Sl} {xs : List Int} (h : Sat R (Own s T (xs.map (Value.int .i64)) :: Hs) w) (hb : xs.length ≤ 9223372036854775807) :
    ∃ R' : Cx, RoI R' s xs ∧ (∀ s' xs', Ro R s' xs' → Ro R' s' xs') ∧ Sat R' Hs w ∧ ∀ {Hs' w'}, Sat R' Hs' w' → Sat R (Own s T (xs.map (Value.int .i64)) :: Hs') w' :=
  Own.lend h (by simpa using hb)

/-- A store into a row of ints of one's own. -/
theorem storeI_rule {P : Program} {R : Cx} {Hs Rest : List HP} {w : World} {b i : Nat} {l : List Int} {T t : TypeId} {kd : IntKind} {x : Int} {K : World → Prop}
    (hsz : (P.info? t).map (·.size) = some 1) (hw : Sat R Hs w) [tk : TakeP b Hs (.cells (l.map (Value.int kd)).toArray T (0, 0)) Rest] (hi : i < l.length)
    (k : ∀ w', Sat R (pts b (.cells ((l.set i x).map (Value.int kd)).toArray T (0, 0)) :: Rest) w' → K w') :
    ∃ w', (Instr.storeAt t (.pointer (some (Addr.add ⟨b, 0, none⟩ i))) (.int kd x)).run P w = .ok () w' ∧ K w' := by
  rw [add_off]
  refine store_rule hw (tk := tk) (by rw [hsz]; rfl) rfl (by simp [Value.cells]; omega) fun w' h => k w' ?_
  have e : putL (l.map (Value.int kd)) (0 + i) (Value.int kd x).cells.toList = (l.set i x).map (Value.int kd) := by
    simp [putL, Value.cells, List.map_set]
  rw [e] at h; exact h

end Go.VC
/- SL, part 5: elements of a slice of one's own, loads, stores, clear; stores of structs. No condition. -/
namespace Go.VC
set_option linter.unusedVariables false

variable {P : Program} {R : Cx} {Hs Rest : List HP} {w : World} {s : Sl} {T : TypeId}

theorem Own.addr {xs : List Value} (hw : Sat R (Own s T xs :: Hs) w) {k : Nat} (hk : k < xs.length) : ∃ b, s.a = some ⟨b, 0, none⟩ ∧
    ∀ {S : World → Prop} {Hs'}, (∀ w, S w → Sat R (Own s T xs :: Hs') w) → At S (Addr.add ⟨b, 0, none⟩ k) [xs[k]] := by
  rcases Own.cases hw with ⟨_, rfl, _⟩ | ⟨b, rest, fr, rfl, _, _⟩
  · simp at hk
  · refine ⟨b, rfl, fun hS w hs i v hv => ?_⟩
    have hi : i = 0 := by
      cases i with
      | zero => rfl
      | succ i => simp at hv
    subst hi
    simp only [List.getElem?_cons_zero, Option.some.injEq] at hv
    subst hv
    rcases Own.cases (hS w hs) with ⟨h0, _, _⟩ | ⟨b', rest', fr', he, _, h⟩
    · cases h0
    · simp only [Sl.mk.injEq, Option.some.injEq, Addr.mk.injEq, and_true] at he
      obtain ⟨rfl, _⟩ := he
      rw [add_off, add_off, cell_of h.at]
      simp [List.getElem?_append_left hk]

theorem Own.cap {xs : List Value} (hw : Sat R (Own s T xs :: Hs) w) : s.len ≤ s.cap := by
  rcases Own.cases hw with ⟨rfl, _, _⟩ | ⟨b, rest, fr, rfl, _, _⟩
  · exact Nat.le_refl _
  · simp

/-- An element of a slice of ints that one owns, as the formulas ask for it. -/
theorem Own.idx {kd : IntKind} {xs : List Int} {S : World → Prop} {Hs' : List HP} (hw : Sat R (Own s T (xs.map (Value.int kd)) :: Hs) w) (hS : ∀ w, S w → Sat R (Own s T (xs.map (Value.int kd)) :: Hs') w) {k : Nat} (hk : k < xs.length) {F : Int → Prop} (h : F xs[k]) :
    Rng (k : Int) s.len (NilP s.a fun a => ∃ t : Int, (At S (a.add (k : Int).toNat) [.int kd t]) ∧ F t) := by
  obtain ⟨b, ha, hat⟩ := Own.addr hw (k := k) (by simpa using hk)
  have hl := Own.len hw
  rw [List.length_map] at hl
  refine Rng.mk (by omega) (by omega) (NilP.mk ha ⟨xs[k], ?_, h⟩)
  have := hat hS
  simpa using this

/-- A store into it. -/
theorem Own.store {t : TypeId} {kd : IntKind} {xs : List Int} (hsz : (P.info? t).map (·.size) = some 1) (hw : Sat R (Own s T (xs.map (Value.int kd)) :: Hs) w) {k : Nat} (hk : k < xs.length) {x : Int} {K : World → Prop}
    (h : ∀ w', Sat R (Own s T ((xs.set k x).map (Value.int kd)) :: Hs) w' → K w') :
    Rng (k : Int) s.len (NilP s.a fun a => ∃ w', (Instr.storeAt t (.pointer (some (Addr.add a (k : Int).toNat))) (.int kd x)).run P w = .ok () w' ∧ K w') := by
  have hl := Own.len hw
  rw [List.length_map] at hl
  rcases Own.cases hw with ⟨_, h0, _⟩ | ⟨b, rest, fr, rfl, hfr, hp⟩
  · simp at h0; subst h0; simp at hk
  · refine Rng.mk (by omega) (by simp only at hl ⊢; omega) (NilP.mk rfl ?_)
    rw [add_off]
    refine store_rule hp (by rw [hsz]; rfl) rfl (by simp [Value.cells]; omega) fun w' h2 => h w' ?_
    have e : putL (xs.map (Value.int kd) ++ rest) (0 + (k : Int).toNat) (Value.int kd x).cells.toList = (xs.set k x).map (Value.int kd) ++ rest := by
      simp only [putL, Value.cells, Nat.zero_add, Int.toNat_natCast]
      rw [List.set_append_left _ _ (by simpa using hk), List.map_set]
    rw [e] at h2
    have h3 := Own.of_pts h2 (hfr.le (by simp))
    simpa using h3

/-- 'clear(s[k:])', and what is left of it: 's[:k]'. -/
theorem Own.clearTail {t ty : TypeId} {kd : IntKind} {xs : List Int} (ht : P.underlying t = some (.slice T)) (hv : ∀ w, (zeroValue T).run P w = .ok (.int kd 0) w)
    (hw : Sat R (Own s T (xs.map (Value.int kd)) :: Hs) w) {k : Nat} (hk : k ≤ xs.length) {K : World → Prop}
    (h : ∀ w', Sat R (Own ⟨s.a, k, s.cap⟩ T ((xs.take k).map (Value.int kd)) :: Hs) w' → K w') :
    ∃ w', (Builtin.clear_ #[t] ty #[.slice (cutA s.a k s.cap 1) (s.len - k) (s.cap - k)]).run P w = .ok (.tuple #[]) w' ∧ K w' := by
  have hl := Own.len hw
  rw [List.length_map] at hl
  rcases Own.cases hw with ⟨rfl, h0, hn⟩ | ⟨b, rest, fr, rfl, hfr, hp⟩
  · simp at h0; subst h0
    obtain rfl : k = 0 := by simpa using hk
    refine ⟨w, ?_, h w (by simpa using Own.nil hn)⟩
    simp [cutA, Builtin.clear_, run_underlying ht]
  · simp only at hl
    simp only [List.length_map] at hl ⊢
    by_cases hk2 : k = xs.length
    · subst hk2
      refine ⟨w, ?_, h w ?_⟩
      · cases hc : cutA (some ⟨b, 0, none⟩) xs.length (xs.length + rest.length) 1 <;> simp [Builtin.clear_, run_underlying ht, hc]
      · rw [List.take_length]; simpa using Own.of_pts hp
    · have hne : ¬ (xs.map (Value.int kd) ++ rest).length = k := by simp; omega
      have ha : cutA (some ⟨b, 0, none⟩) k (xs.map (Value.int kd) ++ rest).length 1 = some ⟨b, k, none⟩ := by
        simp only [cutA, if_neg hne, Option.map_some, add_off]; simp
      rw [ha]
      refine ⟨_, Lib.run_clear_slice w t T ty (.int kd 0) ht hv rfl rfl b k (xs.length - k) _ (by omega) (fun j hj => by rw [cell_of hp.at]; simp; omega) (fun j hj => frozen_no hp.at hfr (by simp; omega)), h _ ?_⟩
      have h2 := setCells_sat (List.replicate (xs.length - k) (Value.int kd 0)) _ k w hp
      rw [putL_eq _ _ _ (by simp; omega)] at h2
      have e : (xs.map (Value.int kd) ++ rest).take k ++ List.replicate (xs.length - k) (Value.int kd 0) ++ (xs.map (Value.int kd) ++ rest).drop (k + (List.replicate (xs.length - k) (Value.int kd 0)).length) = (xs.take k).map (Value.int kd) ++ (List.replicate (xs.length - k) (Value.int kd 0) ++ rest) := by
        rw [List.length_replicate, List.take_append_of_le_length (by simpa using hk), show k + (xs.length - k) = (xs.map (Value.int kd)).length by simp; omega, List.drop_left, List.map_take, List.append_assoc]
      rw [e] at h2
      have h3 := Own.of_pts h2 (hfr.le (by simp; omega))
      have e2 : (⟨some ⟨b, 0, none⟩, ((xs.take k).map (Value.int kd)).length, ((xs.take k).map (Value.int kd) ++ (List.replicate (xs.length - k) (Value.int kd 0) ++ rest)).length⟩ : Sl) = ⟨some ⟨b, 0, none⟩, k, (xs.map (Value.int kd) ++ rest).length⟩ := by
        simp only [List.length_map, List.length_append, List.length_take, List.length_replicate, Sl.mk.injEq, true_and]
        omega
      rw [e2] at h3
      exact h3

end Go.VC
/- SL, part 6: maps with keys that are strings or integers: lookup, update, delete. No condition. -/
namespace Go.VC
set_option linter.unusedVariables false

/-- A kind of key. -/
class KeyK (α : Type) [BEq α] where
  enc : α → Value
  desc : TypeDesc
  same : ∀ a b, Instr.sameNow desc (enc a) (enc b) = some (a == b)
  bits : ∀ a, Instr.sameBits 10000 (enc a) (enc a) = true
  eq : ∀ a b : α, (a == b) = true → a = b
  check : ∀ (P : Program) (em : Bool) (K : TypeId) (a : α) (w : World), P.underlying K = some desc → (Instr.checkKey em 10000 K (enc a)).run P w = .ok () w

instance : KeyK ByteArray where
  enc := Value.string
  desc := .string
  same a b := rfl
  bits a := by
    have : ∀ n, Instr.sameBits n (.string a) (.string a) = (a == a) := fun n => by cases n <;> rfl
    rw [this]; exact (MapKept.bytes_beq a a).2 rfl
  eq a b h := (MapKept.bytes_beq a b).1 h
  check P em K a w h := by
    show (Instr.checkKey em (9999 + 1) K (.string a)).run P w = _
    unfold Instr.checkKey
    simp [run_underlying h]

variable {α : Type} [BEq α] [KeyK α]

/-- An entry: its key, its value, when it was born. -/
abbrev En (α : Type) := α × Value × Nat
def mkE (e : En α) : MapEntry := { key := KeyK.enc e.1, val := e.2.1, born := e.2.2 }

/-- The entry of a key. -/
def getE (k : α) : List (En α) → Option Value
  | [] => none
  | e :: es => if k == e.1 then some e.2.1 else getE k es
def setE (k : α) (v : Value) : List (En α) → List (En α)
  | [] => []
  | e :: es => if k == e.1 then (e.1, v, e.2.2) :: es else e :: setE k v es
def delE (k : α) : List (En α) → List (En α)
  | [] => []
  | e :: es => if k == e.1 then es else e :: delE k es
def hasE (k : α) (es : List (En α)) : Bool := (getE k es).isSome
def putE (k : α) (v : Value) (es : List (En α)) (clock : Nat) : List (En α) := if hasE k es then setE k v es else es ++ [(k, v, clock)]

def idxE (k : α) : List (En α) → Nat → Option (Nat × Value)
  | [], _ => none
  | e :: es, i => if k == e.1 then some (i, e.2.1) else idxE k es (i + 1)

theorem findNow_eq (k : α) : ∀ (es : List (En α)) (i : Nat), Instr.findNow (KeyK.desc α) (KeyK.enc k) (es.map mkE) i = some (idxE k es i)
  | [], _ => rfl
  | e :: es, i => by
    rw [List.map_cons, Instr.findNow, mkE, KeyK.same, idxE]
    cases h : (k == e.1)
    · simpa using findNow_eq k es (i + 1)
    · rfl

omit [KeyK α] in
theorem idxE_val (k : α) : ∀ (es : List (En α)) (i : Nat), (idxE k es i).map (·.2) = getE k es
  | [], _ => rfl
  | e :: es, i => by
    rw [idxE, getE]
    cases h : (k == e.1)
    · exact idxE_val k es (i + 1)
    · rfl

theorem run_findKey {P : Program} {K : TypeId} (hK : P.underlying K = some (KeyK.desc α)) (k : α) (es : List (En α)) (w : World) :
    (Instr.findKey K (KeyK.enc k) (es.map mkE)).run P w = .ok (idxE k es 0) w := by
  unfold Instr.findKey
  simp [run_underlying hK, findNow_eq]

theorem run_keyThatStays {P : Program} (k : α) (w : World) : (Instr.keyThatStays (KeyK.enc k) (KeyK.enc k)).run P w = .ok (KeyK.enc k) w := by
  unfold Instr.keyThatStays
  rw [if_pos (KeyK.bits k)]; rfl

theorem lookup_run {P : Program} {T K E : TypeId} (hT : P.underlying T = some (.map K E)) (hK : P.underlying K = some (KeyK.desc α)) {z : Value} (hz : ∀ w, (zeroValue E).run P w = .ok z w)
    {w : World} {m clock : Nat} {es : List (En α)} (hm : w.heap[m]? = some (.map (es.map mkE).toArray clock)) (k : α) (c : Bool) :
    (Instr.lookup T (.map (some m)) (KeyK.enc k) c).run P w = .ok (if c then .tuple #[(getE k es).getD z, .bool (hasE k es)] else (getE k es).getD z) w := by
  have hv := idxE_val k es 0
  have hck := KeyK.check P (es.map mkE).toArray.isEmpty K k w hK
  have hfk := run_findKey hK k es w
  unfold Instr.lookup
  cases hi : idxE k es 0 with
  | none =>
    rw [hi] at hv hfk
    simp only [Option.map_none] at hv
    simp only [Sem.run_bind, run_underlying hT, Result.andThen, MapKept.run_getObj_map hm, Sem.run_pure, hck, hfk, hz, hasE, ← hv]
    rfl
  | some p =>
    rw [hi] at hv hfk
    simp only [Option.map_some] at hv
    simp only [Sem.run_bind, run_underlying hT, Result.andThen, MapKept.run_getObj_map hm, Sem.run_pure, hck, hfk, hasE, ← hv]
    rfl

omit [KeyK α] in
theorem idxE_set (k : α) : ∀ (es : List (En α)) (i : Nat), (∀ p, idxE k es i = some p → i ≤ p.1)
  | [], i, p, h => by cases h
  | e :: es, i, p, h => by
    rw [idxE] at h
    cases hk : (k == e.1)
    · rw [hk] at h; have := idxE_set k es (i + 1) p (by simpa using h); omega
    · rw [hk] at h; simp at h; subst h; exact Nat.le_refl _

/-- What an update makes of the entries. -/
theorem modify_eq (k : α) (v : Value) : ∀ (es : List (En α)) (i : Nat) (p : Nat × Value), idxE k es i = some p →
    (es.map mkE).modify (p.1 - i) (fun e => { e with key := KeyK.enc k, val := v }) = (setE k v es).map mkE
  | [], _, _, h => by cases h
  | e :: es, i, p, h => by
    have hle := idxE_set k (e :: es) i p h
    rw [idxE] at h
    cases hk : (k == e.1)
    · rw [hk] at h
      have h' : idxE k es (i + 1) = some p := by simpa using h
      have hle2 := idxE_set k es (i + 1) p h'
      obtain ⟨j, hj⟩ : ∃ j, p.1 - i = j + 1 := ⟨p.1 - (i + 1), by omega⟩
      have ih := modify_eq k v es (i + 1) p h'
      rw [show p.1 - (i + 1) = j by omega] at ih
      rw [hj, setE, hk]
      simp only [List.map_cons, List.modify_succ_cons, Bool.false_eq_true, if_false, List.cons.injEq, true_and]
      exact ih
    · rw [hk] at h
      simp at h; subst h
      have := KeyK.eq _ _ hk
      subst this
      rw [setE, hk]
      simp [mkE]

theorem erase_eq (k : α) : ∀ (es : List (En α)) (i : Nat) (p : Nat × Value), idxE k es i = some p → (es.map mkE).eraseIdx (p.1 - i) = (delE k es).map mkE
  | [], _, _, h => by cases h
  | e :: es, i, p, h => by
    rw [idxE] at h
    cases hk : (k == e.1)
    · rw [hk] at h
      have h' : idxE k es (i + 1) = some p := by simpa using h
      have hle2 := idxE_set k es (i + 1) p h'
      obtain ⟨j, hj⟩ : ∃ j, p.1 - i = j + 1 := ⟨p.1 - (i + 1), by omega⟩
      have ih := erase_eq k es (i + 1) p h'
      rw [show p.1 - (i + 1) = j by omega] at ih
      rw [hj, delE, hk]
      simp only [List.map_cons, List.eraseIdx_cons_succ, Bool.false_eq_true, if_false, List.cons.injEq, true_and]
      exact ih
    · rw [hk] at h
      simp at h; subst h
      rw [delE, hk]; simp

omit [KeyK α] in
theorem idxE_none (k : α) (es : List (En α)) (i : Nat) : idxE k es i = none ↔ hasE k es = false := by
  unfold hasE; rw [← idxE_val k es i]; cases idxE k es i <;> simp

omit [KeyK α] in
theorem delE_none (k : α) : ∀ (es : List (En α)), hasE k es = false → delE k es = es
  | [], _ => rfl
  | e :: es, h => by
    unfold hasE getE at h
    cases hk : (k == e.1)
    · rw [hk] at h
      rw [delE, hk]
      simp only [Bool.false_eq_true, if_false, List.cons.injEq, true_and]
      exact delE_none k es (by unfold hasE; simpa using h)
    · rw [hk] at h; simp at h

theorem idxE_lt (k : α) : ∀ (es : List (En α)) (i : Nat) (p : Nat × Value), idxE k es i = some p → p.1 < i + es.length ∧ ∃ e, (es.map mkE)[p.1 - i]? = some e ∧ e.key = KeyK.enc k
  | [], _, _, h => by cases h
  | e :: es, i, p, h => by
    rw [idxE] at h
    cases hk : (k == e.1)
    · rw [hk] at h
      have h' : idxE k es (i + 1) = some p := by simpa using h
      have hle2 := idxE_set k es (i + 1) p h'
      obtain ⟨h1, e', h2, h3⟩ := idxE_lt k es (i + 1) p h'
      refine ⟨by simp only [List.length_cons]; omega, e', ?_, h3⟩
      obtain ⟨j, hj⟩ : ∃ j, p.1 - i = j + 1 := ⟨p.1 - (i + 1), by omega⟩
      rw [hj, List.map_cons, List.getElem?_cons_succ, show j = p.1 - (i + 1) by omega]
      exact h2
    · rw [hk] at h
      simp at h; subst h
      refine ⟨by simp, mkE e, by simp, ?_⟩
      rw [KeyK.eq _ _ hk]; rfl

theorem update_run {P : Program} {T K E : TypeId} (hT : P.underlying T = some (.map K E)) (hK : P.underlying K = some (KeyK.desc α))
    {w : World} {m clock : Nat} {es : List (En α)} (hm : w.heap[m]? = some (.map (es.map mkE).toArray clock)) (k : α) (v : Value) :
    (Instr.mapUpdate T (.map (some m)) (KeyK.enc k) v).run P w = .ok () (w.setBlock m (.map ((putE k v es clock).map mkE).toArray (if hasE k es then clock else clock + 1))) := by
  have hck := KeyK.check P false K k w hK
  have hfk := run_findKey hK k es w
  unfold Instr.mapUpdate
  cases hi : idxE k es 0 with
  | none =>
    have hn := (idxE_none k es 0).1 hi
    rw [hi] at hfk
    simp only [Sem.run_bind, run_underlying hT, Result.andThen, MapKept.run_getObj_map hm, hck, hfk, MapKept.run_setObj_map _ hm, putE, hn, World.setBlock, Bool.false_eq_true, if_false]
    simp [mkE]
  | some p =>
    have hh : hasE k es = true := by
      cases h : hasE k es
      · rw [(idxE_none k es 0).2 h] at hi; cases hi
      · rfl
    obtain ⟨_, e, he, hek⟩ := idxE_lt k es 0 p hi
    have hmod := modify_eq k v es 0 p hi
    rw [Nat.sub_zero] at he hmod
    rw [hi] at hfk
    have hkey : (((es.map mkE).toArray[p.1]?).map (·.key)).getD (KeyK.enc k) = KeyK.enc k := by
      have : (es.map mkE).toArray[p.1]? = some e := by simpa using he
      rw [this]; exact hek
    simp only [Sem.run_bind, run_underlying hT, Result.andThen, MapKept.run_getObj_map hm, hck, hfk, hkey, run_keyThatStays, MapKept.run_setObj_map _ hm, putE, hh, World.setBlock, if_true]
    congr 4
    apply Array.ext'
    rw [← hmod]
    simp

theorem delete_run {P : Program} {T K E ty t2 : TypeId} (hT : P.underlying T = some (.map K E)) (hK : P.underlying K = some (KeyK.desc α))
    {w : World} {m clock : Nat} {es : List (En α)} (hm : w.heap[m]? = some (.map (es.map mkE).toArray clock)) (k : α) :
    (Builtin.delete_ #[T, t2] ty #[.map (some m), KeyK.enc k]).run P w = .ok (.tuple #[]) (w.setBlock m (.map ((delE k es).map mkE).toArray clock)) := by
  have hck := KeyK.check P (es.map mkE).toArray.isEmpty K k w hK
  have hfk := run_findKey hK k es w
  have h0 : (#[T, t2] : Array TypeId)[0]? = some T := rfl
  have h1 : (#[Value.map (some m), KeyK.enc k] : Array Value)[0]? = some (.map (some m)) := rfl
  have h2 : (#[Value.map (some m), KeyK.enc k] : Array Value)[1]? = some (KeyK.enc k) := rfl
  unfold Builtin.delete_
  rw [h0, h1, h2]
  cases hi : idxE k es 0 with
  | none =>
    have hn := (idxE_none k es 0).1 hi
    rw [hi] at hfk
    simp only [Sem.run_bind, run_underlying hT, Result.andThen, MapKept.run_getObj_map hm, hck, hfk, MapKept.run_setObj_map _ hm, World.setBlock, delE_none k es hn, Sem.run_pure]
  | some p =>
    have her := erase_eq k es 0 p hi
    obtain ⟨hlt, _⟩ := idxE_lt k es 0 p hi
    rw [Nat.sub_zero] at her
    rw [hi] at hfk
    have e : (es.map mkE).toArray.eraseIdxIfInBounds p.1 = ((delE k es).map mkE).toArray := by
      apply Array.ext'
      rw [← her]
      simp [Array.eraseIdxIfInBounds, show p.1 < es.length by omega]
    simp only [Sem.run_bind, run_underlying hT, Result.andThen, MapKept.run_getObj_map hm, hck, hfk, MapKept.run_setObj_map _ hm, World.setBlock, e, Sem.run_pure]

end Go.VC
/- SL, part 7: a map of one's own, by its keys and values; opening of what holds for some x. No condition. -/
namespace Go.VC
set_option linter.unusedVariables false
variable {α : Type} [BEq α] [KeyK α]

/-- Key and value. -/
def getM {β : Type} (k : α) : List (α × β) → Option β
  | [] => none
  | e :: es => if k == e.1 then some e.2 else getM k es
def setM {β : Type} (k : α) (v : β) : List (α × β) → List (α × β)
  | [] => []
  | e :: es => if k == e.1 then (e.1, v) :: es else e :: setM k v es
def delM {β : Type} (k : α) : List (α × β) → List (α × β)
  | [] => []
  | e :: es => if k == e.1 then es else e :: delM k es
def putM {β : Type} (k : α) (v : β) (es : List (α × β)) : List (α × β) := if (getM k es).isSome then setM k v es else es ++ [(k, v)]

abbrev strip (es : List (En α)) : List (α × Value) := es.map fun e => (e.1, e.2.1)

omit [KeyK α] in
theorem getE_strip (k : α) : ∀ es : List (En α), getE k es = getM k (strip es)
  | [] => rfl
  | e :: es => by rw [getE, strip, List.map_cons, getM, getE_strip k es]
omit [KeyK α] in
theorem hasE_strip (k : α) (es : List (En α)) : hasE k es = (getM k (strip es)).isSome := by unfold hasE; rw [getE_strip]
omit [KeyK α] in
theorem setE_strip (k : α) (v : Value) : ∀ es : List (En α), strip (setE k v es) = setM k v (strip es)
  | [] => rfl
  | e :: es => by
    have ih := setE_strip k v es
    unfold strip at *
    rw [List.map_cons, setE, setM]
    split
    · simp
    · simp [ih]
omit [KeyK α] in
theorem delE_strip (k : α) : ∀ es : List (En α), strip (delE k es) = delM k (strip es)
  | [] => rfl
  | e :: es => by
    have ih := delE_strip k es
    unfold strip at *
    rw [List.map_cons, delE, delM]
    split
    · rfl
    · simp [ih]
omit [KeyK α] in
theorem putE_strip (k : α) (v : Value) (es : List (En α)) (c : Nat) : strip (putE k v es c) = putM k v (strip es) := by
  unfold putE putM
  rw [hasE_strip]
  split
  · exact setE_strip k v es
  · simp [strip]

/-- The entries' stamps are apart, and below the clock. -/
def StampsOk (l : List (En α)) (c : Nat) : Prop := (∀ e ∈ l, e.2.2 < c) ∧ (l.map (·.2.2)).Nodup

omit [KeyK α] in
theorem setE_stamps (k : α) (v : Value) : ∀ l : List (En α), (setE k v l).map (·.2.2) = l.map (·.2.2)
  | [] => rfl
  | e :: es => by
    rw [setE]
    split
    · rfl
    · rw [List.map_cons, List.map_cons, setE_stamps k v es]
omit [KeyK α] in
theorem delE_sub (k : α) : ∀ l : List (En α), (delE k l).Sublist l
  | [] => List.Sublist.refl _
  | e :: es => by
    rw [delE]
    split
    · exact List.sublist_cons_self _ _
    · exact (delE_sub k es).cons_cons _
omit [KeyK α] in
theorem stamps_put {l : List (En α)} {c : Nat} (h : StampsOk l c) (k : α) (v : Value) : StampsOk (putE k v l c) (if hasE k l then c else c + 1) := by
  unfold putE
  split
  · refine ⟨fun e he => ?_, by rw [setE_stamps]; exact h.2⟩
    have : e.2.2 ∈ (setE k v l).map (·.2.2) := List.mem_map_of_mem he
    rw [setE_stamps] at this
    obtain ⟨x, hx, hxe⟩ := List.mem_map.1 this
    rw [← hxe]; exact h.1 x hx
  · refine ⟨fun e he => ?_, ?_⟩
    · rcases List.mem_append.1 he with he | he
      · have := h.1 e he; omega
      · simp at he; subst he; simp
    · rw [List.map_append, List.nodup_append]
      refine ⟨h.2, by simp, fun x hx y hy => ?_⟩
      simp at hy
      obtain ⟨e, he, rfl⟩ := List.mem_map.1 hx
      have := h.1 e he
      omega
omit [KeyK α] in
theorem stamps_del {l : List (En α)} {c : Nat} (h : StampsOk l c) (k : α) : StampsOk (delE k l) c :=
  ⟨fun e he => h.1 e ((delE_sub k l).subset he), ((delE_sub k l).map _).nodup h.2⟩

/-- Block m is a map of these keys and values, in the order in which they were put in. -/
def MapAt (m : Nat) (es : List (α × Value)) : HP := fun h => ∃ (l : List (En α)) (c : Nat), strip l = es ∧ StampsOk l c ∧ h = Heap.one m (.map (l.map mkE).toArray c)

theorem MapAt.iff {R : Cx} {Hs : List HP} {w : World} {m : Nat} {es : List (α × Value)} : Sat R (MapAt m es :: Hs) w ↔ ∃ l c, strip l = es ∧ StampsOk l c ∧ Sat R (pts m (.map (l.map (mkE (α := α))).toArray c) :: Hs) w := by
  constructor
  · rintro ⟨a, ⟨l, c, h1, h3, h2⟩, hd, hs⟩; exact ⟨l, c, h1, h3, a, h2, hd, hs⟩
  · rintro ⟨l, c, h1, h3, a, h2, hd, hs⟩; exact ⟨a, ⟨l, c, h1, h3, h2⟩, hd, hs⟩

/-- What is asked of a map's type. -/
structure MapT (P : Program) (T : TypeId) (α : Type) [BEq α] [KeyK α] (K E : TypeId) (z : Value) : Prop where
  hT : P.underlying T = some (.map K E)
  hK : P.underlying K = some (KeyK.desc α)
  hz : ∀ w, (zeroValue E).run P w = .ok z w

variable {P : Program} {R : Cx} {Hs : List HP} {w : World} {m : Nat} {es : List (α × Value)} {T K E : TypeId} {z : Value}

theorem MapAt.look (M : MapT P T α K E z) (hw : Sat R (MapAt m es :: Hs) w) (k : α) (c : Bool) :
    (Instr.lookup T (.map (some m)) (KeyK.enc k) c).run P w = .ok (if c then .tuple #[(getM k es).getD z, .bool (getM k es).isSome] else (getM k es).getD z) w := by
  obtain ⟨l, clk, rfl, _, hp⟩ := MapAt.iff.1 hw
  rw [lookup_run M.hT M.hK M.hz hp.at k c, getE_strip, hasE_strip]

theorem MapAt.put (M : MapT P T α K E z) (hw : Sat R (MapAt m es :: Hs) w) (k : α) (v : Value) {Q : World → Prop} (h : ∀ w', Sat R (MapAt m (putM k v es) :: Hs) w' → Q w') :
    ∃ w', (Instr.mapUpdate T (.map (some m)) (KeyK.enc k) v).run P w = .ok () w' ∧ Q w' := by
  obtain ⟨l, clk, rfl, hst, hp⟩ := MapAt.iff.1 hw
  refine ⟨_, update_run M.hT M.hK hp.at k v, h _ (MapAt.iff.2 ⟨putE k v l clk, _, putE_strip k v l clk, stamps_put hst k v, hp.setPts _⟩)⟩

theorem MapAt.del {t2 ty : TypeId} (M : MapT P T α K E z) (hw : Sat R (MapAt m es :: Hs) w) (k : α) {Q : World → Prop} (h : ∀ w', Sat R (MapAt m (delM k es) :: Hs) w' → Q w') :
    ∃ w', (Builtin.delete_ #[T, t2] ty #[.map (some m), KeyK.enc k]).run P w = .ok (.tuple #[]) w' ∧ Q w' := by
  obtain ⟨l, clk, rfl, hst, hp⟩ := MapAt.iff.1 hw
  exact ⟨_, delete_run M.hT M.hK hp.at k, h _ (MapAt.iff.2 ⟨delE k l, _, delE_strip k l, stamps_del hst k, hp.setPts _⟩)⟩

theorem MapAt.new {o : Obj} (ho : o = .map #[] 0) (hw : Sat R (pts m o :: Hs) w) : Sat R (MapAt (α := α) m [] :: Hs) w := by
  subst ho
  exact MapAt.iff.2 ⟨[], 0, rfl, ⟨fun _ h => (by cases h), List.nodup_nil⟩, hw⟩

/-! ### Getting and setting, by where the key is -/
section
variable {β : Type}
omit [KeyK α] in
theorem getM_app {k : α} {v : β} : ∀ {a b : List (α × β)}, getM k a = none → (k == k) = true → getM k (a ++ (k, v) :: b) = some v
  | [], b, _, hk => by simp [getM, hk]
  | e :: a, b, h, hk => by
    rw [getM] at h
    split at h
    · cases h
    · rename_i hne
      rw [List.cons_append, getM, if_neg hne]
      exact getM_app h hk
omit [KeyK α] in
theorem setM_app {k : α} {v v' : β} : ∀ {a b : List (α × β)}, getM k a = none → (k == k) = true → setM k v' (a ++ (k, v) :: b) = a ++ (k, v') :: b
  | [], b, _, hk => by simp [setM, hk]
  | e :: a, b, h, hk => by
    rw [getM] at h
    split at h
    · cases h
    · rename_i hne
      rw [List.cons_append, setM, if_neg hne, setM_app h hk]; rfl
omit [KeyK α] in
theorem delM_app {k : α} {v : β} : ∀ {a b : List (α × β)}, getM k a = none → (k == k) = true → delM k (a ++ (k, v) :: b) = a ++ b
  | [], b, _, hk => by simp [delM, hk]
  | e :: a, b, h, hk => by
    rw [getM] at h
    split at h
    · cases h
    · rename_i hne
      rw [List.cons_append, delM, if_neg hne, delM_app h hk]; rfl
theorem getM_split {k : α} {v : β} : ∀ {l : List (α × β)}, getM k l = some v → ∃ a b, l = a ++ (k, v) :: b ∧ getM k a = none
  | [], h => by cases h
  | e :: l, h => by
    rw [getM] at h
    split at h
    · rename_i hk
      cases h
      have := KeyK.eq _ _ hk
      subst this
      exact ⟨[], l, rfl, rfl⟩
    · rename_i hne
      obtain ⟨a, b, rfl, ha⟩ := getM_split h
      exact ⟨e :: a, b, rfl, by rw [getM, if_neg hne]; exact ha⟩
omit [KeyK α] in
theorem getM_map {γ : Type} (f : β → γ) (k : α) : ∀ l : List (α × β), getM k (l.map fun e => (e.1, f e.2)) = (getM k l).map f
  | [] => rfl
  | e :: l => by
    rw [List.map_cons, getM, getM, getM_map f k l]
    split <;> rfl
end

end Go.VC
/- SL, part 8: slices of any one-cell elements; bytes and strings. No condition. -/
namespace Go.VC
set_option linter.unusedVariables false
variable {P : Program} {R : Cx} {Hs : List HP} {w : World} {s : Sl} {T : TypeId}

/-- An element of a slice that is only read: integers of any kind. -/
theorem Ro.idxK {kd : IntKind} {xs : List Int} {S : World → Prop} (hr : Ro R s (xs.map (Value.int kd))) (hS : ∀ w, S w → Sat R Hs w) {k : Nat} (hk : k < xs.length) {F : Int → Prop} (h : F xs[k]) :
    Rng (k : Int) s.len (NilP s.a fun a => ∃ t : Int, (At S (a.add (k : Int).toNat) [.int kd t]) ∧ F t) := by
  obtain ⟨a, ha, hat⟩ := hr.addr (k := k) (by simpa using hk)
  have hl : s.len = xs.length := by have := hr.len; simpa using this
  refine Rng.mk (by omega) (by omega) (NilP.mk ha ⟨xs[k], ?_, h⟩)
  have := hat hS
  simpa using this

/-- .. strings. -/
theorem Ro.idxStr {xs : List ByteArray} {S : World → Prop} (hr : Ro R s (xs.map Value.string)) (hS : ∀ w, S w → Sat R Hs w) {k : Nat} (hk : k < xs.length) {F : ByteArray → Prop} (h : F xs[k]) :
    Rng (k : Int) s.len (NilP s.a fun a => ∃ t : ByteArray, (At S (a.add (k : Int).toNat) [.string t]) ∧ F t) := by
  obtain ⟨a, ha, hat⟩ := hr.addr (k := k) (by simpa using hk)
  have hl : s.len = xs.length := by have := hr.len; simpa using this
  refine Rng.mk (by omega) (by omega) (NilP.mk ha ⟨xs[k], ?_, h⟩)
  have := hat hS
  simpa using this

/-- What is appended: a slice that is only read. -/
theorem srcRo {t2 e' : TypeId} (ht : P.underlying t2 = some (.slice e')) {xs : List Value} (hw : Sat R Hs w) (hs : Ro R s xs) (h1 : oneAll xs = true) : Src P 1 t2 (.slice s.a s.len s.cap) xs.length xs w := by
  have hl : s.len = xs.length := hs.len
  by_cases hx : xs = []
  · subst hx
    obtain ⟨a, n, c⟩ := s
    simp only [List.length_nil] at hl
    subst hl
    cases a with
    | none => exact Go.Src.ofNil _ ht _
    | some a => exact Go.Src.ofSlice w ht _ 0 _ [] rfl (fun j u hj => by simp at hj) (fun u hu => by cases hu)
  · obtain ⟨b, off, l, T, fr, ha, hb, hel⟩ := hs.mem hx
    obtain ⟨a, n, c⟩ := s
    simp only at ha hl
    subst ha hl
    refine Go.Src.ofSlice w ht _ _ _ _ (by simp) (fun j u hj => ?_) (fun u hu => List.all_eq_true.1 h1 u hu)
    rw [add_off]
    have := hw.of_ro hb
    simp only [World.cell?, this, Option.isSome_none, Bool.false_eq_true, if_false]
    exact hel j u hj

/-- A string's bytes, as numbers. -/
def bytesL (s : ByteArray) : List Int := s.data.toList.map fun b => (b.toNat : Int)
theorem bytesL_len (s : ByteArray) : (bytesL s).length = s.size := by simp [bytesL]
theorem bytesL_bd (s : ByteArray) : ∀ n ∈ bytesL s, 0 ≤ n ∧ n < 256 := by
  intro n hn
  obtain ⟨b, _, rfl⟩ := List.mem_map.1 hn
  have := b.toNat_lt
  omega

theorem world_heap_ext {a b : World} (h : a.heap = b.heap) (h2 : { a with heap := b.heap } = b) : a = b := by rw [← h2, ← h]

theorem bytesWorld_alloc (w : World) (e : TypeId) (s : ByteArray) :
    Lib.bytesWorld w e s = w.drew.alloc (.cells (Lib.bytesCells w e s) e ((Lib.bytesCells w e s).size, (Lib.bytesCells w e s).size + 1)) := by
  have : (Lib.bytesWorld w e s).heap = (w.drew.alloc (.cells (Lib.bytesCells w e s) e ((Lib.bytesCells w e s).size, (Lib.bytesCells w e s).size + 1))).heap := by
    apply Array.ext_getElem?
    intro i
    by_cases hi : i < w.heap.size
    · rw [Lib.bytesWorld_at_old w e s i hi]
      simp [World.alloc, World.drew, -World.alloc_eq, -World.drew_eq, Array.getElem?_push, Nat.ne_of_lt hi]
    · by_cases h2 : i = w.heap.size
      · subst h2
        rw [Lib.bytesWorld_at_new]
        simp [World.alloc, World.drew, -World.alloc_eq, -World.drew_eq]
      · rw [Array.getElem?_eq_none (by rw [Lib.bytesWorld_size]; omega), Array.getElem?_eq_none (by simp [World.alloc, World.drew, -World.alloc_eq, -World.drew_eq]; omega)]
  exact world_heap_ext this rfl

/-- '[]byte(s)'. -/
theorem convB_rule {src dst : TypeId} {u : TypeDesc} (hs : P.underlying src = some u) (hd : P.underlying dst = some (.slice T)) (he : P.underlying T = some (.int .u8)) {b : ByteArray} {K : Sl → World → Prop}
    (hw : Sat R Hs w) (k : ∀ t w', Sat R (Own t T ((bytesL b).map (Value.int .u8)) :: Hs) w' → K t w') :
    ∃ w', ∃ t : Sl, (convert src dst (.string b)).run P w = .ok (.slice t.a t.len t.cap) w' ∧ K t w' := by
  refine ⟨_, ⟨some ⟨w.heap.size, 0, none⟩, b.size, grownCap w b.size 0 T⟩, Lib.run_convert_string_bytes w src dst T b hs hd he, k _ _ ?_⟩
  rw [bytesWorld_alloc]
  have hc : Lib.bytesCells w T b = ((bytesL b).map (Value.int .u8) ++ List.replicate (grownCap w b.size 0 T - b.size) (Value.int .u8 0)).toArray := by
    apply Array.ext'
    simp [Lib.bytesCells, bytesL, Function.comp_def]
  have h1 := Sat.alloc (Obj.cells (Lib.bytesCells w T b) T ((Lib.bytesCells w T b).size, (Lib.bytesCells w T b).size + 1)) hw.drew
  have hg := grownCap_ge w b.size 0 T
  rw [hc] at h1 ⊢
  have h2 := Own.of_pts h1 (.inr (by simp))
  have e : (⟨some ⟨w.drew.heap.size, 0, none⟩, ((bytesL b).map (Value.int .u8)).length, ((bytesL b).map (Value.int .u8) ++ List.replicate (grownCap w b.size 0 T - b.size) (Value.int .u8 0)).length⟩ : Sl) = ⟨some ⟨w.heap.size, 0, none⟩, b.size, grownCap w b.size 0 T⟩ := by
    simp only [List.length_append, List.length_map, List.length_replicate, bytesL_len, World.size_drew]
    congr 1
    omega
  rw [e] at h2
  exact h2

/-- The string of bytes. -/
def strOf (xs : List Int) : ByteArray := ⟨(xs.map fun n => UInt8.ofNat n.toNat).toArray⟩

/-- 'string(b)', of a slice that is only read. -/
theorem convS_ro {src dst : TypeId} (hs : P.underlying src = some (.slice T)) (he : P.underlying T = some (.int .u8)) (hd : P.underlying dst = some .string) {xs : List Int}
    (hw : Sat R Hs w) (hr : Ro R s (xs.map (Value.int .u8))) : (convert src dst (.slice s.a s.len s.cap)).run P w = .ok (.string (strOf xs)) w := by
  have hl : s.len = xs.length := by have := hr.len; simpa using this
  by_cases hx : xs = []
  · subst hx
    obtain ⟨a, n, c⟩ := s
    simp only [List.length_nil] at hl
    subst hl
    cases a with
    | none => exact run_convert_bytes_nil w src T hs he _ _ dst hd
    | some a =>
      rw [run_convert_bytes_string w src dst T _ _ _ hs he hd, run_bytesToString w a 0 c [] (by simpa using run_loadCells_list (P := P) w a [] (fun j v hj => by simp at hj))]
      rfl
  · obtain ⟨b, off, l, T', fr, ha, hb, hel⟩ := hr.mem (by simpa using hx)
    obtain ⟨a, n, c⟩ := s
    simp only at ha hl
    subst ha hl
    refine (run_convert_bytes_arg w src T hs he b off _ c xs rfl (fun i hi => ?_) dst hd).trans rfl
    have := hw.of_ro hb
    simp only [World.cell?, this, Option.isSome_none, Bool.false_eq_true, if_false]
    refine hel i _ ?_
    simp [hi, List.getD]

theorem strOf_bytesL (b : ByteArray) : strOf (bytesL b) = b := by
  unfold strOf bytesL
  rw [List.map_map]
  have : (List.map ((fun n : Int => UInt8.ofNat n.toNat) ∘ fun b : UInt8 => (b.toNat : Int)) b.data.toList) = b.data.toList := by
    conv => rhs; rw [← List.map_id b.data.toList]
    apply List.map_congr_left
    intro x _
    simp
  rw [this]

theorem bytesL_strOf {xs : List Int} (h : ∀ n ∈ xs, 0 ≤ n ∧ n < 256) : bytesL (strOf xs) = xs := by
  unfold strOf bytesL
  simp only [List.map_map]
  conv => rhs; rw [← List.map_id xs]
  apply List.map_congr_left
  intro x hx
  have := h x hx
  simp
  omega

end Go.VC
/- SL, part 9: what a call of the library leaves that changes no block that lay before: a new row of cells. No condition. -/
namespace Go.VC
set_option linter.unusedVariables false
open Go Go.RowKit

/-- The world w' has all the blocks of w, as they were; the streams are the same. -/
structure Keeps (w w' : World) : Prop where
  os : w'.os = w.os
  tape : w'.tape = w.tape
  output : w'.output = w.output
  block : ∀ k, k < w.heap.size → w'.heap[k]? = w.heap[k]?

theorem Keeps.of_below {w w' : World} (h : Below w.heap.size w w') : Keeps w w' := ⟨h.os, h.tape, h.output, h.block⟩

theorem Sat.keeps : ∀ {Hs : List HP} {R : Cx} {w w' : World}, Sat R Hs w → Keeps w w' → Sat R Hs w'
  | [], _, w, _, h, e => ⟨fun b o hb => by
      have := h.1 b o hb
      rw [e.block b (Array.getElem?_eq_some_iff.1 this).1]; exact this, e.os.trans h.2.1, e.tape.trans h.2.2.1, e.output.trans h.2.2.2⟩
  | _ :: _, _, _, _, h, e => let ⟨h', hH, hd, hs⟩ := h; ⟨h', hH, hd, hs.keeps e⟩

theorem Sat.grewTo : ∀ {Hs : List HP} {R : Cx} {w w' : World} {b : Nat} {o : Obj}, Sat R Hs w → Keeps w w' → w.heap.size ≤ b → w'.heap[b]? = some o → Sat (R.add (Heap.one b o)) Hs w'
  | [], R, w, w', b, o, h, e, hb, ho => by
    refine ⟨fun i x hx => ?_, e.os.trans h.2.1, e.tape.trans h.2.2.1, e.output.trans h.2.2.2⟩
    simp only [Cx.m_add, Heap.add, Heap.one] at hx
    cases hr : R.m i with
    | some y =>
      rw [hr] at hx
      have := h.1 i y hr
      rw [e.block i (Array.getElem?_eq_some_iff.1 this).1, this]
      exact hx
    | none =>
      rw [hr] at hx
      simp only at hx
      split at hx
      · rename_i hi; subst hi; rw [ho]; exact hx
      · cases hx
  | H :: Hs, R, w, w', b, o, h, e, hb, ho => by
    have hR : R.m b = .none := Sat.ro_lt h hb
    obtain ⟨a, hA, hd, hs⟩ := h
    have hadd : (R.add a).m b = .none := Sat.ro_lt hs hb
    have ha : a b = .none := by simpa [Cx.m_add, Heap.add, hR] using hadd
    have := Sat.grewTo hs e hb ho
    have hdis : (Heap.one b o).dis a := by
      intro i hi
      simp only [Heap.one]
      split
      · rename_i h; subst h; exact absurd ha hi
      · rfl
    refine ⟨a, hA, Cx.add_dis hd hdis, ?_⟩
    rw [Cx.add_assoc, Heap.add_comm hdis, ← Cx.add_assoc]
    exact this

theorem Sat.fresh {R : Cx} {Hs : List HP} {w w' : World} {b : Nat} {o : Obj} (h : Sat R Hs w) (e : Keeps w w') (hb : w.heap.size ≤ b) (ho : w'.heap[b]? = some o) : Sat R (pts b o :: Hs) w' :=
  Sat.lend.2 ⟨Sat.ro_lt h hb, Sat.grewTo h e hb ho⟩

/-- A row that a call of the library has made. -/
theorem Sat.ownsRow {R : Cx} {Hs : List HP} {w w' : World} {T : TypeId} {v : Value} {n : Nat} {xs : List Value} (h : Sat R Hs w) (e : Below w.heap.size w w') (hr : w'.ownsRow w.heap.size T 1 v n xs) :
    ∃ s : Sl, v = .slice s.a s.len s.cap ∧ Sat R (Own s T xs :: Hs) w' := by
  obtain ⟨hl, h1 | ⟨g, cap, cur, rfl, hg, hb, hn, hc, hcs, ht⟩⟩ := hr
  · obtain ⟨rfl, rfl⟩ := h1
    have : xs = [] := by simpa using hl
    subst this
    exact ⟨⟨none, 0, 0⟩, rfl, Own.nil (h.keeps (.of_below e))⟩
  · rw [Nat.mul_one] at *
    have h2 := h.fresh (.of_below e) hg hb
    have e1 : cur = (xs ++ cur.toList.drop n).toArray := by
      apply Array.ext'
      rw [← ht]; simp
    rw [e1] at h2
    have h3 := Own.of_pts h2
    refine ⟨_, ?_, h3⟩
    have : (xs ++ cur.toList.drop n).length = cap := by
      have e2 : cur.toList.length = cap := by rw [Array.length_toList]; exact hcs
      rw [List.length_append, List.length_drop, e2, hl]; omega
    simp only [this, hl]

end Go.VC
/- SL, part 10: slices whose elements are structs of n cells: one's own, or only read; elements, stores, append. No condition but bounds on lengths. -/
namespace Go.VC
set_option linter.unusedVariables false
open Go Go.RowKit

variable {P : Program} {R : Cx} {Hs Rest : List HP} {w : World} {s : Sl} {T : TypeId} {n : Nat}

/-! ### Rows -/

def Wid (n : Nat) (rows : List (List Value)) : Prop := ∀ x ∈ rows, x.length = n

theorem Wid.nil {n : Nat} : Wid n [] := fun _ h => by cases h
theorem Wid.app {n : Nat} {a b : List (List Value)} (ha : Wid n a) (hb : Wid n b) : Wid n (a ++ b) := fun x hx => (List.mem_append.1 hx).elim (ha x) (hb x)
theorem Wid.one {n : Nat} {x : List Value} (h : x.length = n) : Wid n [x] := fun y hy => by simp at hy; rw [hy]; exact h
theorem Wid.len {n : Nat} : ∀ {rows : List (List Value)}, Wid n rows → rows.flatten.length = rows.length * n
  | [], _ => by simp
  | x :: rows, h => by
    rw [List.flatten_cons, List.length_append, h x List.mem_cons_self, Wid.len (rows := rows) (fun y hy => h y (List.mem_cons_of_mem _ hy)), List.length_cons, Nat.add_mul]
    omega
theorem Wid.drop_flat {n : Nat} : ∀ {rows : List (List Value)} (k : Nat), Wid n rows → rows.flatten.drop (k * n) = (rows.drop k).flatten
  | rows, 0, _ => by simp
  | [], k + 1, _ => by simp
  | x :: rows, k + 1, h => by
    have hx := h x List.mem_cons_self
    rw [List.flatten_cons, List.drop_succ_cons, ← Wid.drop_flat (rows := rows) k (fun y hy => h y (List.mem_cons_of_mem _ hy)), List.drop_append]
    have e1 : x.drop ((k + 1) * n) = [] := List.drop_eq_nil_of_le (by rw [hx, Nat.add_mul]; omega)
    have e2 : (k + 1) * n - x.length = k * n := by rw [hx, Nat.add_mul]; omega
    rw [e1, e2, List.nil_append]
theorem Wid.take_flat {n : Nat} {rows : List (List Value)} (k : Nat) (h : Wid n rows) : rows.flatten.take (k * n) = (rows.take k).flatten := by
  by_cases hk : k ≤ rows.length
  · have e : rows.flatten = (rows.take k).flatten ++ (rows.drop k).flatten := by rw [← List.flatten_append, List.take_append_drop]
    rw [e, List.take_left']
    rw [Wid.len (fun x hx => h x (List.mem_of_mem_take hx)), List.length_take, Nat.min_eq_left hk]
  · rw [List.take_of_length_le (by rw [h.len]; exact Nat.mul_le_mul_right _ (by omega)), List.take_of_length_le (by omega)]
theorem Wid.take {n k : Nat} {rows : List (List Value)} (h : Wid n rows) : Wid n (rows.take k) := fun x hx => h x (List.mem_of_mem_take hx)
theorem Wid.drop {n k : Nat} {rows : List (List Value)} (h : Wid n rows) : Wid n (rows.drop k) := fun x hx => h x (List.mem_of_mem_drop hx)
theorem Wid.set {n k : Nat} {rows : List (List Value)} {x : List Value} (h : Wid n rows) (hx : x.length = n) : Wid n (rows.set k x) := fun y hy => by
  rcases List.mem_or_eq_of_mem_set hy with hy | rfl
  · exact h y hy
  · exact hx

theorem Pre.app : ∀ {vs a : List Value} (b : List Value), Pre vs a → Pre vs (a ++ b)
  | [], _, _, _ => trivial
  | _ :: _, _ :: _, b, h => ⟨h.1, Pre.app b h.2⟩
  | _ :: _, [], _, h => h.elim

theorem Pre.len : ∀ {vs a : List Value}, Pre vs a → vs.length ≤ a.length
  | [], _, _ => Nat.zero_le _
  | _ :: _, _ :: _, h => by simp only [List.length_cons]; exact Nat.succ_le_succ (Pre.len h.2)
  | _ :: _, [], h => h.elim

theorem Wid.pre {n k j : Nat} {rows : List (List Value)} (rest : List Value) (h : Wid n rows) (hk : k < rows.length) {vs : List Value} (hp : Pre vs (rows[k].drop j)) : Pre vs ((rows.flatten ++ rest).drop (k * n + j)) := by
  cases vs with
  | nil => trivial
  | cons v vs =>
    have hj : j < rows[k].length := by
      have := Pre.len hp; simp only [List.length_cons, List.length_drop] at this; omega
    have hx : rows[k].length = n := h _ (List.getElem_mem _)
    have hle : k * n + j ≤ rows.flatten.length := by
      rw [h.len]
      have : (k + 1) * n ≤ rows.length * n := Nat.mul_le_mul_right _ (by omega)
      rw [Nat.add_mul] at this
      omega
    rw [List.drop_append_of_le_length hle, Nat.add_comm (k * n) j, ← List.drop_drop]
    rw [Nat.add_comm] at hle
    rw [List.drop_drop, Nat.add_comm j, ← List.drop_drop, h.drop_flat, List.drop_eq_getElem_cons hk, List.flatten_cons, List.drop_append_of_le_length (by omega), List.append_assoc]
    exact hp.app _

theorem set_flat {n : Nat} : ∀ {rows : List (List Value)} {k j : Nat} (v : Value), Wid n rows → (hk : k < rows.length) → j < n → rows.flatten.set (k * n + j) v = (rows.set k (rows[k].set j v)).flatten
  | [], k, j, v, _, hk, _ => by simp at hk
  | x :: rows, 0, j, v, h, _, hj => by
    have hx := h x List.mem_cons_self
    simp only [Nat.zero_mul, Nat.zero_add, List.flatten_cons, List.getElem_cons_zero, List.set_cons_zero]
    rw [List.set_append_left _ _ (by omega)]
  | x :: rows, k + 1, j, v, h, hk, hj => by
    have hx := h x List.mem_cons_self
    have hk' : k < rows.length := by simpa using hk
    simp only [List.flatten_cons, List.getElem_cons_succ, List.set_cons_succ]
    rw [List.set_append_right _ _ (by rw [hx, Nat.add_mul]; omega)]
    have e : (k + 1) * n + j - x.length = k * n + j := by rw [hx, Nat.add_mul]; omega
    rw [e, set_flat v (fun y hy => h y (List.mem_cons_of_mem _ hy)) hk' hj]

theorem putL_flat {n : Nat} {rest : List Value} : ∀ (vs : List Value) {rows : List (List Value)} {k j : Nat}, Wid n rows → (hk : k < rows.length) → j + vs.length ≤ n →
    putL (rows.flatten ++ rest) (k * n + j) vs = (rows.set k (putL rows[k] j vs)).flatten ++ rest
  | [], rows, k, j, _, hk, _ => by simp [putL]
  | v :: vs, rows, k, j, h, hk, hj => by
    simp only [List.length_cons] at hj
    have hb : k * n + j < rows.flatten.length := by
      rw [h.len]
      have : (k + 1) * n ≤ rows.length * n := Nat.mul_le_mul_right _ (by omega)
      rw [Nat.add_mul] at this
      omega
    rw [putL, List.set_append_left _ _ hb, set_flat v h hk (by omega), Nat.add_assoc, putL_flat vs (h.set (by rw [List.length_set]; exact h _ (List.getElem_mem _))) (by simpa using hk) (by omega)]
    simp [putL]

/-! ### One's own -/

def OwnN (n : Nat) (s : Sl) (T : TypeId) (rows : List (List Value)) : HP := fun h =>
  Wid n rows ∧ ((s = ⟨none, 0, 0⟩ ∧ rows = [] ∧ h = Heap.none) ∨
    ∃ b rest fr cap, s = ⟨some ⟨b, 0, none⟩, rows.length, cap⟩ ∧ (rows.flatten ++ rest).length = cap * n ∧ okFr (cap * n) fr ∧ h = Heap.one b (.cells (rows.flatten ++ rest).toArray T fr))

theorem OwnN.nil (h : Sat R Hs w) : Sat R (OwnN n ⟨none, 0, 0⟩ T [] :: Hs) w :=
  ⟨Heap.none, ⟨Wid.nil, .inl ⟨rfl, rfl, rfl⟩⟩, fun i hi => absurd rfl hi, by rw [Cx.add_none]; exact h⟩

theorem OwnN.of_pts {b cap : Nat} {fr : Nat × Nat} {rows : List (List Value)} {rest : List Value} (hwid : Wid n rows) (hl : (rows.flatten ++ rest).length = cap * n) (h : Sat R (pts b (.cells (rows.flatten ++ rest).toArray T fr) :: Hs) w)
    (hf : okFr (cap * n) fr := by first | assumption | exact Or.inl rfl) : Sat R (OwnN n ⟨some ⟨b, 0, none⟩, rows.length, cap⟩ T rows :: Hs) w :=
  let ⟨a, ha, hd, hs⟩ := h; ⟨a, ⟨hwid, .inr ⟨b, rest, fr, cap, rfl, hl, hf, ha⟩⟩, hd, hs⟩

theorem OwnN.cases {rows : List (List Value)} (h : Sat R (OwnN n s T rows :: Hs) w) : Wid n rows ∧
    ((s = ⟨none, 0, 0⟩ ∧ rows = [] ∧ Sat R Hs w) ∨ ∃ b rest fr cap, s = ⟨some ⟨b, 0, none⟩, rows.length, cap⟩ ∧ (rows.flatten ++ rest).length = cap * n ∧ okFr (cap * n) fr ∧ Sat R (pts b (.cells (rows.flatten ++ rest).toArray T fr) :: Hs) w) := by
  obtain ⟨a, ⟨hwid, ha⟩, hd, hs⟩ := h
  refine ⟨hwid, ?_⟩
  rcases ha with ⟨h1, h2, rfl⟩ | ⟨b, rest, fr, cap, h1, h3, hf, rfl⟩
  · rw [Cx.add_none] at hs; exact .inl ⟨h1, h2, hs⟩
  · exact .inr ⟨b, rest, fr, cap, h1, h3, hf, _, rfl, hd, hs⟩

theorem OwnN.wid {rows : List (List Value)} (h : Sat R (OwnN n s T rows :: Hs) w) : Wid n rows := (OwnN.cases h).1
theorem OwnN.len {rows : List (List Value)} (h : Sat R (OwnN n s T rows :: Hs) w) : s.len = rows.length := by
  rcases (OwnN.cases h).2 with ⟨rfl, rfl, _⟩ | ⟨b, rest, fr, cap, rfl, _, _⟩ <;> rfl
theorem OwnN.cap {rows : List (List Value)} (hn : 0 < n) (h : Sat R (OwnN n s T rows :: Hs) w) : s.len ≤ s.cap := by
  have hwid := (OwnN.cases h).1
  rcases (OwnN.cases h).2 with ⟨rfl, rfl, _⟩ | ⟨b, rest, fr, cap, rfl, hl, _⟩
  · exact Nat.le_refl _
  · rw [List.length_append, hwid.len] at hl
    simp only
    have : rows.length * n ≤ cap * n := by omega
    exact Nat.le_of_mul_le_mul_right this hn

/-- The slice's elements are there, to be read: in whatever worlds. -/
def ReadsN (n : Nat) (s : Sl) (rows : List (List Value)) (S : World → Prop) : Prop :=
  s.len = rows.length ∧ ∀ k (hk : k < rows.length), ∃ b off, s.a = some ⟨b, off, none⟩ ∧ ∀ j vs, Pre vs (rows[k].drop j) → At S ⟨b, off + (k * n + j), none⟩ vs

theorem OwnN.reads {rows : List (List Value)} (hw : Sat R (OwnN n s T rows :: Hs) w) {S : World → Prop} {Hs'} (hS : ∀ w, S w → Sat R (OwnN n s T rows :: Hs') w) : ReadsN n s rows S := by
  refine ⟨OwnN.len hw, fun k hk => ?_⟩
  obtain ⟨hwid, ⟨_, rfl, _⟩ | ⟨b, rest, fr, cap, rfl, hl, _, _⟩⟩ := OwnN.cases hw
  · simp at hk
  · refine ⟨b, 0, rfl, fun j vs hp w hw i v hv => ?_⟩
    obtain ⟨_, ⟨h0, _, _⟩ | ⟨b', rest', fr', cap', he, _, _, h⟩⟩ := OwnN.cases (hS w hw)
    · cases h0
    · simp only [Sl.mk.injEq, Option.some.injEq, Addr.mk.injEq, and_true] at he
      obtain ⟨rfl, _⟩ := he
      have := (Wid.pre rest' hwid hk hp).get i v hv
      rw [List.getElem?_drop] at this
      rw [add_off, Nat.zero_add, cell_of h.at, this]

theorem Take.sat {A : HP} (h : Sat R Hs w) (t : Take A Hs Rest) : Sat R (A :: Rest) w := h.perm t.perm

theorem OwnN.readsT {rows : List (List Value)} {S : World → Prop} {Hs' : List HP} (hw : Sat R Hs w) (t : Take (OwnN n s T rows) Hs Rest) {Rest' : List HP} (hS : ∀ w, S w → Sat R Hs' w) (t' : Take (OwnN n s T rows) Hs' Rest') : ReadsN n s rows S :=
  OwnN.reads (hw.perm t.perm) fun w h => (hS w h).perm t'.perm

/-- The index is in range. -/
theorem ReadsN.rng {S : World → Prop} {rows : List (List Value)} (h : ReadsN n s rows S) {k : Nat} (hk : k < rows.length) {F : Addr → Prop} (f : ∀ b off, s.a = some ⟨b, off, none⟩ → (∀ j vs, Pre vs (rows[k].drop j) → At S ⟨b, off + (k * n + j), none⟩ vs) → F ⟨b, off, none⟩) :
    Rng (k : Int) s.len (NilP s.a F) := by
  obtain ⟨b, off, ha, hat⟩ := h.2 k hk
  have := h.1
  exact Rng.mk (by omega) (by omega) (NilP.mk ha (f b off ha hat))

theorem elt_addr (b off k n j : Nat) : (⟨(Addr.add ⟨b, off, none⟩ (mulS k n)).block, (Addr.add ⟨b, off, none⟩ (mulS k n)).off + j, none⟩ : Addr) = ⟨b, off + (k * n + j), none⟩ := by
  rw [add_off, mulS_eq]; simp only [Addr.mk.injEq, and_true, true_and]; omega
theorem elt_addr0 (b off k n : Nat) : Addr.add ⟨b, off, none⟩ (mulS k n) = ⟨b, off + (k * n + 0), none⟩ := by
  rw [add_off, mulS_eq]; rfl

/-- A store into an element. -/
theorem OwnN.store {rows : List (List Value)} {t : TypeId} {v : Value} {k j : Nat} {b off : Nat} {K : World → Prop} (hw : Sat R (OwnN n s T rows :: Hs) w) (ha : s.a = some ⟨b, off, none⟩) (hsz : (P.info? t).map (·.size) = some v.cells.toList.length) (h1 : oneAll v.cells.toList = true)
    (hk : k < rows.length) (hj : j + v.cells.toList.length ≤ n) (h : ∀ w', Sat R (OwnN n s T (rows.set k (putL rows[k] j v.cells.toList)) :: Hs) w' → K w') :
    ∃ w', (Instr.storeAt t (.pointer (some ⟨b, off + (k * n + j), none⟩)) v).run P w = .ok () w' ∧ K w' := by
  obtain ⟨hwid, ⟨rfl, _, _⟩ | ⟨b', rest, fr, cap, rfl, hl, hf, hp⟩⟩ := OwnN.cases hw
  · cases ha
  · simp only [Option.some.injEq, Addr.mk.injEq, and_true] at ha
    obtain ⟨rfl, rfl⟩ := ha
    have hlt : (k + 1) * n ≤ rows.length * n := Nat.mul_le_mul_right _ (by omega)
    rw [Nat.add_mul] at hlt
    have hll := hl
    rw [List.length_append, hwid.len] at hll
    rw [Nat.zero_add]
    refine store_rule hp hsz h1 (by rw [List.length_append, hwid.len]; omega) (fun w' h2 => h w' ?_) (by rw [hl]; exact hf)
    rw [putL_flat _ hwid hk hj] at h2
    have hl2 : (putL rows[k] j v.cells.toList).length = n := by rw [putL_len]; exact hwid _ (List.getElem_mem _)
    have := OwnN.of_pts (cap := cap) (hwid.set hl2) (by rw [← hl, List.length_append, List.length_append, (hwid.set hl2).len, List.length_set, hwid.len]) h2
    rw [List.length_set] at this
    exact this

/-! ### Only read -/

structure RoN (n : Nat) (R : Cx) (s : Sl) (rows : List (List Value)) : Prop where
  wid : Wid n rows
  len : s.len = rows.length
  mem : rows ≠ [] → ∃ b off l T fr, s.a = some ⟨b, off, none⟩ ∧ R.m b = some (.cells l T fr) ∧ ∀ (i : Nat) v, rows.flatten[i]? = some v → l[off + i]? = some v

theorem RoN.add {h : Heap} {rows : List (List Value)} (hr : RoN n R s rows) : RoN n (R.add h) s rows :=
  ⟨hr.wid, hr.len, fun hx => let ⟨b, off, l, T, fr, ha, hb, hl⟩ := hr.mem hx; ⟨b, off, l, T, fr, ha, Cx.kept hb, hl⟩⟩

theorem RoN.reads {rows : List (List Value)} (hr : RoN n R s rows) {S : World → Prop} {Hs'} (hS : ∀ w, S w → Sat R Hs' w) : ReadsN n s rows S := by
  refine ⟨hr.len, fun k hk => ?_⟩
  obtain ⟨b, off, l, T, fr, ha, hb, hl⟩ := hr.mem (fun h => by rw [h] at hk; simp at hk)
  refine ⟨b, off, ha, fun j vs hp w hw i v hv => ?_⟩
  have h1 := (Wid.pre [] hr.wid hk hp).get i v hv
  rw [List.append_nil, List.getElem?_drop] at h1
  have := (hS w hw).of_ro hb
  rw [add_off]
  simp only [World.cell?, this, Option.isSome_none, Bool.false_eq_true, if_false]
  rw [Nat.add_assoc]
  exact hl _ _ h1

/-- It may be lent out to those who only read. -/
theorem OwnN.lend {rows : List (List Value)} (h : Sat R (OwnN n s T rows :: Hs) w) :
    ∃ R' : Cx, RoN n R' s rows ∧ (∃ x, R' = R.add x) ∧ Sat R' Hs w ∧ ∀ {Hs' w'}, Sat R' Hs' w' → Sat R (OwnN n s T rows :: Hs') w' := by
  obtain ⟨hwid, ⟨rfl, rfl, h2⟩ | ⟨b, rest, fr, cap, rfl, hl, hf, h2⟩⟩ := OwnN.cases h
  · exact ⟨R, ⟨hwid, rfl, fun h => absurd rfl h⟩, ⟨Heap.none, (Cx.add_none R).symm⟩, h2, fun h => OwnN.nil h⟩
  · obtain ⟨hn, h3⟩ := Sat.lend.1 h2
    refine ⟨_, ⟨hwid, rfl, fun _ => ⟨b, 0, _, T, fr, rfl, Cx.lent hn, fun i v hv => ?_⟩⟩, ⟨_, rfl⟩, h3, fun h => OwnN.of_pts hwid hl (Sat.lend.2 ⟨hn, h⟩)⟩
    obtain ⟨hi, rfl⟩ := List.getElem?_eq_some_iff.1 hv
    simp [List.getElem?_append_left hi]

/-- A part of it: 's[l:h]'. -/
theorem RoN.sub {rows : List (List Value)} (hr : RoN n R s rows) {l h m : Nat} (hlh : l ≤ h) (hh : h ≤ rows.length) (hm : m = l → h = l) : RoN n R ⟨cutA s.a l m n, h - l, m - l⟩ ((rows.take h).drop l) := by
  have hwid : Wid n ((rows.take h).drop l) := hr.wid.take.drop
  refine ⟨hwid, by simp; omega, fun hne => ?_⟩
  have hlt : l < h := by
    have : 0 < ((rows.take h).drop l).length := List.length_pos_iff.2 hne
    simp at this; omega
  obtain ⟨b, off, ls, T, fr, ha, hb, hl⟩ := hr.mem (fun h0 => by rw [h0] at hh; simp at hh; omega)
  refine ⟨b, off + l * n, ls, T, fr, ?_, hb, fun i v hv => ?_⟩
  · unfold cutA
    rw [if_neg (fun e => by have := hm e; omega), ha]
    simp [add_off]
  · rw [Nat.add_assoc]
    refine hl _ _ ?_
    have e1 : ((rows.take h).drop l).flatten = (rows.flatten.take (h * n)).drop (l * n) := by
      rw [hr.wid.take_flat, hr.wid.take.drop_flat]
    rw [e1, List.getElem?_drop] at hv
    rw [List.getElem?_take] at hv
    split at hv
    · exact hv
    · cases hv

theorem RoN.take {rows : List (List Value)} (hr : RoN n R s rows) {h : Nat} (hh : h ≤ rows.length) (c : Nat) : RoN n R ⟨s.a, h, c⟩ (rows.take h) :=
  ⟨hr.wid.take, by simp; omega, fun hne => by
    obtain ⟨b, off, ls, T, fr, ha, hb, hl⟩ := hr.mem (fun h0 => hne (by rw [h0]; simp))
    refine ⟨b, off, ls, T, fr, ha, hb, fun i v hv => hl _ _ ?_⟩
    rw [← hr.wid.take_flat, List.getElem?_take] at hv
    split at hv
    · exact hv
    · cases hv⟩

/-! ### Append -/

def elBN (P : Program) (T : TypeId) (n bytes : Nat) : Bool :=
  match P.info? T with
  | some i => match i.zero with
    | some z => i.size == n && i.bytes == bytes && z.cells.size == n
    | none => false
  | none => false

structure ElN (P : Program) (t1 t2 T : TypeId) (n bytes : Nat) : Prop where
  ht : P.underlying t1 = some (.slice T)
  hk : ∃ e', P.underlying t2 = some (.slice e')
  hi : elBN P T n bytes = true

theorem elBN_out {P : Program} {T : TypeId} {n bytes : Nat} (h : elBN P T n bytes = true) : ∃ i z, P.info? T = some i ∧ i.zero = some z ∧ i.size = n ∧ i.bytes = bytes ∧ z.cells.size = n := by
  unfold elBN at h
  split at h
  · rename_i i hi
    split at h
    · rename_i z hz
      simp only [Bool.and_eq_true, beq_iff_eq] at h
      exact ⟨i, z, hi, hz, h.1.1, h.1.2, h.2⟩
    · cases h
  · cases h

theorem appendN_rule {t1 t2 ty : TypeId} {bytes : Nat} (E : ElN P t1 t2 T n bytes) {rows ys : List (List Value)} {src : Value} {K : Sl → World → Prop}
    (hw : Sat R (OwnN n s T rows :: Hs) w) (hs : Src P n t2 src ys.length ys.flatten w) (hy : Wid n ys) (hb : 2 * (rows.length + ys.length) * bytes ≤ 281474976710656) (hb' : rows.length + ys.length ≤ 9223372036854775807)
    (k : ∀ s' w', Sat R (OwnN n s' T (rows ++ ys) :: Hs) w' → K s' w') :
    ∃ w', ∃ t : Sl, (Builtin.append_ #[t1, t2] ty #[.slice s.a s.len s.cap, src]).run P w = .ok (.slice t.a t.len t.cap) w' ∧ K t w' := by
  obtain ⟨i, z, hi, hz, hsize, hbytes, hzc⟩ := elBN_out E.hi
  have hs' : Src P i.size t2 src ys.length ys.flatten w := by rw [hsize]; exact hs
  have hlen := OwnN.len hw
  have hwid := OwnN.wid hw
  have hwid2 := hwid.app hy
  generalize hcn : ys.length = c at *
  have fit : ∀ cap, cap < rows.length + c → Builtin.nextslicecap (rows.length + c) cap * i.bytes ≤ 281474976710656 := fun cap hc => by
    have h2 : Builtin.nextslicecap (rows.length + c) cap ≤ 2 * (rows.length + c) := by
      unfold Builtin.nextslicecap
      split
      · omega
      · split
        · omega
        · have := nextslicecap_le_wide hc
          unfold Builtin.nextslicecap at this
          rw [if_neg (by assumption), if_neg (by assumption)] at this
          omega
    rw [hbytes]
    exact Nat.le_trans (Nat.mul_le_mul_right _ h2) hb
  -- a new row
  have grow : ∀ (base : Option Addr) (cap : Nat), cap < rows.length + c → (Builtin.firstCells i.size rows.length (.slice base rows.length cap)).run P w.drew = .ok rows.flatten.toArray w.drew → Sat R Hs w →
      ∃ w', ∃ t : Sl, (Builtin.append_ #[t1, t2] ty #[.slice base rows.length cap, src]).run P w = .ok (.slice t.a t.len t.cap) w' ∧ K t w' := fun base cap hc hold hw => by
    have hr := run_append_grow_src w t1 t2 ty T i z E.ht hi hz base rows.length cap rows.flatten hold src c ys.flatten hs' hc (by omega) (fit cap hc)
    refine ⟨_, ⟨some ⟨w.heap.size, 0, none⟩, rows.length + c, grownCap w (rows.length + c) cap T⟩, hr, k _ _ ?_⟩
    have hz0 : (Builtin.zeroCells z.cells (grownCap w (rows.length + c) cap T - (rows.length + c))).size = (grownCap w (rows.length + c) cap T - (rows.length + c)) * n := by
      simp [Builtin.zeroCells, hzc]
    have hg := grownCap_ge w (rows.length + c) cap T
    generalize hG : grownCap w (rows.length + c) cap T = G at *
    have ho' : Obj.cells ((rows.flatten ++ ys.flatten).toArray ++ Builtin.zeroCells z.cells (G - (rows.length + c))) T = .cells ((rows ++ ys).flatten ++ (Builtin.zeroCells z.cells (G - (rows.length + c))).toList).toArray T (0, 0) := by
      congr 1
      apply Array.ext'; simp
    have := Sat.alloc (Obj.cells ((rows.flatten ++ ys.flatten).toArray ++ Builtin.zeroCells z.cells (G - (rows.length + c))) T) (Sat.drew hw)
    rw [ho'] at this ⊢
    have hlenG : ((rows ++ ys).flatten ++ (Builtin.zeroCells z.cells (G - (rows.length + c))).toList).length = G * n := by
      have hz1 : (Builtin.zeroCells z.cells (G - (rows.length + c))).toList.length = (G - (rows.length + c)) * n := by rw [Array.length_toList]; exact hz0
      rw [List.length_append, hz1, hwid2.len, List.length_append, hcn, ← Nat.add_mul]
      congr 1; omega
    have h3 := OwnN.of_pts (cap := G) hwid2 hlenG this
    have e : (⟨some ⟨w.drew.heap.size, 0, none⟩, (rows ++ ys).length, G⟩ : Sl) = ⟨some ⟨w.heap.size, 0, none⟩, rows.length + c, G⟩ := by
      simp only [List.length_append, World.size_drew, hcn]
    rw [e] at h3
    exact h3
  obtain ⟨_, ⟨rfl, rfl, hz2⟩ | ⟨b, rest, fr, cap, rfl, hl, hfr, hp⟩⟩ := OwnN.cases hw
  · by_cases hn0 : c = 0
    · subst hn0
      have hy0 : ys = [] := List.length_eq_zero_iff.1 hcn
      subst hy0
      obtain ⟨e', he'⟩ := E.hk
      refine ⟨w, ⟨none, 0, 0⟩, ?_, k _ _ (by simpa using OwnN.nil hz2)⟩
      have hcz := hs'.cells
      simp [Builtin.append_, run_underlying E.ht, run_underlying he', sizeOf, typeInfo, hi, hs'.len, hcz]
    · exact grow none 0 (by simp; omega) (run_firstCells_none w.drew i.size 0 0 0) hz2
  · have hl0 := hl
    rw [List.length_append, hwid.len] at hl
    by_cases hroom : rows.length + c ≤ cap
    · have hat := hp.at
      have hcapn : (rows.length + c) * n ≤ cap * n := Nat.mul_le_mul_right _ hroom
      rw [Nat.add_mul] at hcapn
      have hyl : ys.flatten.length = c * n := by rw [hy.len, hcn]
      have hr := run_append_room_src w t1 t2 ty T i E.ht hi b 0 rows.length cap src c ys.flatten hs' hroom
        (fun j hj => by
          rw [cell_of hat, hsize, List.getElem?_eq_getElem (by rw [hl0]; omega)]; rfl) (fun j hj => frozen_no hat hfr (by rw [hsize]; omega))
      refine ⟨_, ⟨some ⟨b, 0, none⟩, rows.length + c, cap⟩, hr, k _ _ ?_⟩
      have h2 := setCells_sat ys.flatten (rows.flatten ++ rest) (rows.length * n) w hp
      have e1 : putL (rows.flatten ++ rest) (rows.length * n) ys.flatten = (rows ++ ys).flatten ++ rest.drop (c * n) := by
        rw [putL_eq _ _ _ (by rw [hyl, hl0]; omega), List.take_left' hwid.len, hyl, ← List.drop_drop, List.drop_left' hwid.len]
        simp
      rw [e1] at h2
      rw [hsize, Nat.zero_add]
      have h3 := OwnN.of_pts (cap := cap) hwid2 (by rw [List.length_append, hwid2.len, List.length_append, hcn, List.length_drop, Nat.add_mul]; omega) h2
      rw [List.length_append, hcn] at h3
      exact h3
    · have hat := hp.at
      refine grow (some ⟨b, 0, none⟩) cap (by omega) ?_ hp.drop
      refine run_firstCells_some w.drew i.size rows.length ⟨b, 0, none⟩ rows.length _ rows.flatten (by rw [hsize, hwid.len]) ?_
      intro j u hj
      rw [World.cell?_drew, add_off, cell_of hat, Nat.zero_add]
      obtain ⟨hlt, rfl⟩ := List.getElem?_eq_some_iff.1 hj
      simp [List.getElem?_append_left hlt]

/-- The source of 'append(s, x)': the cells that were made for it. -/
theorem SrcN_one {t2 : TypeId} (hk : ∃ e', P.underlying t2 = some (.slice e')) {b : Nat} {x : List Value} {fr : Nat × Nat} (c : Nat)
    (hw : Sat R Hs w) [t : TakeP b Hs (.cells x.toArray T fr) Rest] (hx : x.length = n) (h1 : oneAll x = true) : Src P n t2 (.slice (some ⟨b, 0, none⟩) 1 c) [x].length [x].flatten w := by
  obtain ⟨e', he'⟩ := hk
  refine Go.Src.ofSlice w he' _ 1 c _ (by simp [hx]) ?_ ?_
  · intro j u hj
    have := hw.look b
    rw [add_off, cell_of this]; simpa using hj
  · intro u hu; simp at hu; exact List.all_eq_true.1 h1 u hu

/-- What is appended: a slice that is only read. -/
theorem srcRoN {t2 : TypeId} (ht : ∃ e', P.underlying t2 = some (.slice e')) {rows : List (List Value)} (hw : Sat R Hs w) (hs : RoN n R s rows) (h1 : oneAll rows.flatten = true) : Src P n t2 (.slice s.a s.len s.cap) rows.length rows.flatten w := by
  obtain ⟨e', ht⟩ := ht
  have hl : s.len = rows.length := hs.len
  by_cases hx : rows = []
  · subst hx
    obtain ⟨a, n, c⟩ := s
    simp only [List.length_nil] at hl
    subst hl
    cases a with
    | none => exact Go.Src.ofNil _ ht _
    | some a => exact Go.Src.ofSlice w ht _ 0 _ [] (by simp) (fun j u hj => by simp at hj) (fun u hu => by cases hu)
  · obtain ⟨b, off, l, T, fr, ha, hb, hel⟩ := hs.mem hx
    obtain ⟨a, n, c⟩ := s
    simp only at ha hl
    subst ha hl
    refine Go.Src.ofSlice w ht _ _ _ _ (by rw [hs.wid.len]) (fun j u hj => ?_) (fun u hu => List.all_eq_true.1 h1 u hu)
    rw [add_off]
    have := hw.of_ro hb
    simp only [World.cell?, this, Option.isSome_none, Bool.false_eq_true, if_false]
    exact hel j u hj

/-- 'append(s, x)'. -/
theorem pushN_rule {t1 t2 ty T' : TypeId} {bytes : Nat} (E : ElN P t1 t2 T n bytes) {rows : List (List Value)} {x : List Value} {K : Sl → World → Prop}
    (hw : Sat R (OwnN n s T rows :: Hs) w) (hx : x.length = n) (h1 : oneAll x = true) (hb : 2 * (rows.length + 1) * bytes ≤ 281474976710656) (hb' : rows.length + 1 ≤ 9223372036854775807)
    (k : ∀ s' w', Sat R (OwnN n s' T (rows ++ [x]) :: Hs) w' → K s' w') :
    New (.cells x.toArray T' (0, 0)) (fun b w => ∃ w', ∃ t : Sl, (Builtin.append_ #[t1, t2] ty #[.slice s.a s.len s.cap, .slice (some ⟨b, 0, none⟩) 1 1]).run P w = .ok (.slice t.a t.len t.cap) w' ∧ K t w') w := by
  refine new_rule hw fun b w hw => ?_
  have hw : Sat R (pts b (.cells x.toArray T' (0, 0)) :: OwnN n s T rows :: Hs) w := hw
  exact appendN_rule E hw.swap (SrcN_one E.hk 1 hw hx h1) (Wid.one hx) hb hb' fun s' w' h => k s' w' h.swap.drop

/-- A new array with no element. -/
theorem OwnN.empty {b : Nat} {fr : Nat × Nat} (h : Sat R (pts b (.cells #[] T fr) :: Hs) w) : Sat R (OwnN n ⟨some ⟨b, 0, none⟩, 0, 0⟩ T [] :: Hs) w :=
  OwnN.of_pts (rows := []) (rest := []) (cap := 0) Wid.nil (by simp) h (.inr (by simp))

/-- 'append([]T{}, ..)'. -/
theorem appendN0_rule {t1 t2 ty : TypeId} {bytes b : Nat} {fr : Nat × Nat} (E : ElN P t1 t2 T n bytes) {ys : List (List Value)} {src : Value} {K : Sl → World → Prop}
    (hw : Sat R Hs w) [tk : TakeP b Hs (.cells ([] : List Value).toArray T fr) Rest] (hs : Src P n t2 src ys.length ys.flatten w) (hy : Wid n ys) (hb : 2 * ys.length * bytes ≤ 281474976710656) (hb' : ys.length ≤ 9223372036854775807)
    (k : ∀ s' w', Sat R (OwnN n s' T ys :: Rest) w' → K s' w') :
    ∃ w', ∃ t : Sl, (Builtin.append_ #[t1, t2] ty #[.slice (some ⟨b, 0, none⟩) 0 0, src]).run P w = .ok (.slice t.a t.len t.cap) w' ∧ K t w' := by
  have h2 := appendN_rule (ty := ty) (s := ⟨some ⟨b, 0, none⟩, 0, 0⟩) (K := K) E (OwnN.empty (hw.takeP tk)) hs hy (by simpa using hb) (by simpa using hb') (by simpa using k)
  exact h2
theorem append0_rule {t1 t2 ty : TypeId} {bytes b : Nat} {fr : Nat × Nat} (E : El P t1 t2 T bytes) {ys : List Value} {src : Value} {m : Nat} {K : Sl → World → Prop}
    (hw : Sat R Hs w) [tk : TakeP b Hs (.cells ([] : List Value).toArray T fr) Rest] (hs : Src P 1 t2 src m ys w) (hb : 2 * m * bytes ≤ 281474976710656) (hb' : m ≤ 9223372036854775807)
    (k : ∀ s' w', Sat R (Own s' T ys :: Rest) w' → K s' w') :
    ∃ w', ∃ t : Sl, (Builtin.append_ #[t1, t2] ty #[.slice (some ⟨b, 0, none⟩) 0 0, src]).run P w = .ok (.slice t.a t.len t.cap) w' ∧ K t w' := by
  have h0 : Sat R (Own ⟨some ⟨b, 0, none⟩, 0, 0⟩ T [] :: Rest) w := Own.of_pts (xs := []) (rest := []) (hw.takeP tk) (.inr (by simp))
  have h2 := append_rule (ty := ty) (s := ⟨some ⟨b, 0, none⟩, 0, 0⟩) (K := K) E h0 hs rfl (by simpa using hb) (by simpa using hb') (by simpa using k)
  exact h2

/-! ### Elements as the formulas ask for them -/

structure Elt (n : Nat) (S : World → Prop) (a : Addr) (k : Nat) (row : List Value) : Prop where
  f : ∀ (j : Nat) {vs : List Value}, Pre vs (row.drop j) → At S ⟨(Addr.add a (mulS (k : Int).toNat n)).block, (Addr.add a (mulS (k : Int).toNat n)).off + j, none⟩ vs
  z : ∀ {vs : List Value}, Pre vs row → At S (Addr.add a (mulS (k : Int).toNat n)) vs
  zz : ∀ {vs : List Value}, Pre vs row → At S (Addr.add (Addr.add a (mulS (k : Int).toNat n)) 0) vs

theorem elt_addr00 (b off k n : Nat) : Addr.add (Addr.add ⟨b, off, none⟩ (mulS k n)) 0 = ⟨b, off + (k * n + 0), none⟩ := by
  rw [elt_addr0, add_off]; rfl

theorem ReadsN.rngM {α : Type} {E : List α} {g : α → List Value} {S : World → Prop} (h : ReadsN n s (E.map g) S) {k : Nat} (hk : k < E.length) {F : Addr → Prop} (f : ∀ a, s.a = some a → Elt n S a k (g E[k]) → F a) : Rng (k : Int) s.len (NilP s.a F) := by
  have hg : (E.map g)[k]'(by simpa using hk) = g E[k] := by simp
  refine h.rng (k := k) (by simpa using hk) fun b off ha hat => f _ ha ⟨fun j vs hp => ?_, fun hp => ?_, fun hp => ?_⟩
  · rw [Int.toNat_natCast, elt_addr]; exact hat j _ (by rw [hg]; exact hp)
  · rw [Int.toNat_natCast, elt_addr0]; exact hat 0 _ (by rw [hg]; exact hp)
  · rw [Int.toNat_natCast, elt_addr00]; exact hat 0 _ (by rw [hg]; exact hp)

theorem OwnN.readsM {rows : List (List Value)} (hw : Sat R Hs w) [t : Take (OwnN n s T rows) Hs Rest] {S : World → Prop} (hS : ∀ w, S w → Sat R Hs w) : ReadsN n s rows S :=
  OwnN.reads (hw.perm t.perm) fun w h => (hS w h).perm t.perm

/-- A store into a field of an element: the elements told by g. -/
theorem OwnN.storeM {α : Type} {E : List α} {g : α → List Value} {t : TypeId} {v : Value} {k : Nat} {a : Addr} {K : World → Prop} (j : Nat) (e' : α) (hw : Sat R Hs w) [tk : Take (OwnN n s T (E.map g)) Hs Rest] (ha : s.a = some a) (hk : k < E.length)
    (hsz : (P.info? t).map (·.size) = some v.cells.toList.length) (h1 : oneAll v.cells.toList = true) (hj : j + v.cells.toList.length ≤ n) (he : putL (g E[k]) j v.cells.toList = g e')
    (h : ∀ w', Sat R (OwnN n s T ((E.set k e').map g) :: Rest) w' → K w') :
    ∃ w', (Instr.storeAt t (.pointer (some ⟨(Addr.add a (mulS (k : Int).toNat n)).block, (Addr.add a (mulS (k : Int).toNat n)).off + j, none⟩)) v).run P w = .ok () w' ∧ K w' := by
  have hw := hw.perm tk.perm
  have hg : (E.map g)[k]'(by simpa using hk) = g E[k] := by simp
  have hb : ∃ b off, a = ⟨b, off, none⟩ := by
    obtain ⟨_, ⟨rfl, _, _⟩ | ⟨b', rest, fr, cap, rfl, hl, hf, hp⟩⟩ := OwnN.cases hw
    · cases ha
    · simp only [Option.some.injEq] at ha; exact ⟨b', 0, ha.symm⟩
  obtain ⟨b, off, rfl⟩ := hb
  rw [Int.toNat_natCast, elt_addr]
  refine OwnN.store hw ha hsz h1 (by simpa using hk) hj fun w' h2 => h w' ?_
  rw [hg, he] at h2
  rw [List.map_set]; exact h2

/-- The one list is the other in another order. -/
class Arr (Hs Hs' : List HP) : Prop where
  perm : Hs.Perm Hs'
instance (priority := 2000) Arr.refl {Hs : List HP} : Arr Hs Hs := ⟨List.Perm.refl _⟩
instance Arr.cons {A : HP} {Hs Rest Hs' : List HP} [t : Take A Hs Rest] [r : Arr Rest Hs'] : Arr Hs (A :: Hs') := ⟨t.perm.trans (r.perm.cons A)⟩
theorem Sat.arr {Hs' : List HP} (h : Sat R Hs w) [a : Arr Hs Hs'] : Sat R Hs' w := h.perm a.perm

/-! ### Branches, by their tests -/

theorem Br.d {p : Prop} {inst : Decidable p} {A B : Prop} (h : p → A) (h' : ¬ p → B) : Br (@decide p inst) A B := Br.mk (fun e => h (of_decide_eq_true e)) (fun e => h' (of_decide_eq_false e))
theorem Br.nd {p : Prop} {inst : Decidable p} {A B : Prop} (h : ¬ p → A) (h' : p → B) : Br (!@decide p inst) A B := Br.mk (fun e => h (by simpa using e)) (fun e => h' (by simpa using e))
theorem Br.e {x y : Int} {A B : Prop} (h : x = y → A) (h' : ¬ x = y → B) : Br (x == y) A B := Br.mk (fun e => h (by simpa using e)) (fun e => h' (by simpa using e))
theorem Br.ne {x y : Int} {A B : Prop} (h : ¬ x = y → A) (h' : x = y → B) : Br (x != y) A B := Br.mk (fun e => h (by simpa using e)) (fun e => h' (by simpa using e))
theorem Br.nne {x y : Int} {A B : Prop} (h : ¬ x = y → A) (h' : x = y → B) : Br (!(x == y)) A B := Br.mk (fun e => h (by simpa using e)) (fun e => h' (by simpa using e))
theorem Br.nb {b : Bool} {A B : Prop} (h : b = false → A) (h' : b = true → B) : Br (!b) A B := Br.mk (fun e => h (by simpa using e)) (fun e => h' (by simpa using e))
theorem str_eql (a b : ByteArray) : (a.toList == b.toList) = decide (a = b) := by
  rw [ByteArray.toList_eq, ByteArray.toList_eq]
  by_cases h : a = b
  · simp [h]
  · have : a.data ≠ b.data := fun h2 => h (by cases a; cases b; simp_all)
    simp [h, this]
theorem Br.se {x y : ByteArray} {A B : Prop} (h : x = y → A) (h' : ¬ x = y → B) : Br (x.toList == y.toList) A B := by rw [str_eql]; exact Br.d h h'
theorem Br.sne {x y : ByteArray} {A B : Prop} (h : ¬ x = y → A) (h' : x = y → B) : Br (!(x.toList == y.toList)) A B := by rw [str_eql]; exact Br.nd h h'

end Go.VC
/- Integers of other kinds: wrapping, bits, shifts, as the formulas ask for them. No condition but ranges. -/
namespace Go.VC
set_option linter.unusedVariables false

theorem wrapU8 {x : Int} (h0 : 0 ≤ x) (h1 : x < 256) : IntKind.u8.wrap x = x := by rw [IntKind.wrap_u8']; omega
theorem wrapU8m (x : Int) : IntKind.u8.wrap x = x % 256 := IntKind.wrap_u8' x
theorem wrapU32 {x : Int} (h0 : 0 ≤ x) (h1 : x < 4294967296) : IntKind.u32.wrap x = x := by rw [IntKind.wrap_u32']; omega
theorem wrapU32m (x : Int) : IntKind.u32.wrap x = x % 4294967296 := IntKind.wrap_u32' x
theorem wrapU64 {x : Int} (h0 : 0 ≤ x) (h1 : x < 18446744073709551616) : IntKind.u64.wrap x = x := by rw [IntKind.wrap_u64]; omega
theorem wrapU64m (x : Int) : IntKind.u64.wrap x = x % 18446744073709551616 := IntKind.wrap_u64 x

theorem bv_toNat (n x : Nat) (h : x < 2 ^ n) : (BitVec.ofInt n (x : Int)).toNat = x := by
  rw [BitVec.toNat_ofInt]
  have : ((x : Int) % (2 ^ n : Nat)) = x := Int.emod_eq_of_lt (by omega) (by exact_mod_cast h)
  rw [this]; rfl

theorem xorU32 {x y : Nat} (hx : x < 4294967296) (hy : y < 4294967296) : bitI .xor .u32 x y = ((x ^^^ y : Nat) : Int) := by
  have e : (BitVec.ofInt 32 (x : Int) ^^^ BitVec.ofInt 32 (y : Int)).toNat = x ^^^ y := by rw [BitVec.toNat_xor, bv_toNat 32 x hx, bv_toNat 32 y hy]
  show IntKind.u32.wrap (((BitVec.ofInt 32 (x : Int) ^^^ BitVec.ofInt 32 (y : Int)).toNat : Nat) : Int) = _
  rw [e]
  have : x ^^^ y < 4294967296 := Nat.xor_lt_two_pow (n := 32) hx hy
  exact wrapU32 (by omega) (by omega)
theorem andU32 {x y : Nat} (hx : x < 4294967296) (hy : y < 4294967296) : bitI .and .u32 x y = ((x &&& y : Nat) : Int) := by
  have e : (BitVec.ofInt 32 (x : Int) &&& BitVec.ofInt 32 (y : Int)).toNat = x &&& y := by rw [BitVec.toNat_and, bv_toNat 32 x hx, bv_toNat 32 y hy]
  show IntKind.u32.wrap (((BitVec.ofInt 32 (x : Int) &&& BitVec.ofInt 32 (y : Int)).toNat : Nat) : Int) = _
  rw [e]
  have : x &&& y < 4294967296 := Nat.and_lt_two_pow (n := 32) x hy
  exact wrapU32 (by omega) (by omega)
theorem orU32 {x y : Nat} (hx : x < 4294967296) (hy : y < 4294967296) : bitI .or .u32 x y = ((x ||| y : Nat) : Int) := by
  have e : (BitVec.ofInt 32 (x : Int) ||| BitVec.ofInt 32 (y : Int)).toNat = x ||| y := by rw [BitVec.toNat_or, bv_toNat 32 x hx, bv_toNat 32 y hy]
  show IntKind.u32.wrap (((BitVec.ofInt 32 (x : Int) ||| BitVec.ofInt 32 (y : Int)).toNat : Nat) : Int) = _
  rw [e]
  have : x ||| y < 4294967296 := Nat.or_lt_two_pow (n := 32) hx hy
  exact wrapU32 (by omega) (by omega)
theorem xorU8 {x y : Nat} (hx : x < 256) (hy : y < 256) : bitI .xor .u8 x y = ((x ^^^ y : Nat) : Int) := by
  have e : (BitVec.ofInt 8 (x : Int) ^^^ BitVec.ofInt 8 (y : Int)).toNat = x ^^^ y := by rw [BitVec.toNat_xor, bv_toNat 8 x hx, bv_toNat 8 y hy]
  show IntKind.u8.wrap (((BitVec.ofInt 8 (x : Int) ^^^ BitVec.ofInt 8 (y : Int)).toNat : Nat) : Int) = _
  rw [e]
  have : x ^^^ y < 256 := Nat.xor_lt_two_pow (n := 8) hx hy
  exact wrapU8 (by omega) (by omega)
theorem orU8 {x y : Nat} (hx : x < 256) (hy : y < 256) : bitI .or .u8 x y = ((x ||| y : Nat) : Int) := by
  have e : (BitVec.ofInt 8 (x : Int) ||| BitVec.ofInt 8 (y : Int)).toNat = x ||| y := by rw [BitVec.toNat_or, bv_toNat 8 x hx, bv_toNat 8 y hy]
  show IntKind.u8.wrap (((BitVec.ofInt 8 (x : Int) ||| BitVec.ofInt 8 (y : Int)).toNat : Nat) : Int) = _
  rw [e]
  have : x ||| y < 256 := Nat.or_lt_two_pow (n := 8) hx hy
  exact wrapU8 (by omega) (by omega)
theorem andU8 {x y : Nat} (hx : x < 256) (hy : y < 256) : bitI .and .u8 x y = ((x &&& y : Nat) : Int) := by
  have e : (BitVec.ofInt 8 (x : Int) &&& BitVec.ofInt 8 (y : Int)).toNat = x &&& y := by rw [BitVec.toNat_and, bv_toNat 8 x hx, bv_toNat 8 y hy]
  show IntKind.u8.wrap (((BitVec.ofInt 8 (x : Int) &&& BitVec.ofInt 8 (y : Int)).toNat : Nat) : Int) = _
  rw [e]
  have : x &&& y < 256 := Nat.and_lt_two_pow (n := 8) x hy
  exact wrapU8 (by omega) (by omega)
theorem orU64 {x y : Nat} (hx : x < 18446744073709551616) (hy : y < 18446744073709551616) : bitI .or .u64 x y = ((x ||| y : Nat) : Int) := by
  have e : (BitVec.ofInt 64 (x : Int) ||| BitVec.ofInt 64 (y : Int)).toNat = x ||| y := by rw [BitVec.toNat_or, bv_toNat 64 x hx, bv_toNat 64 y hy]
  show IntKind.u64.wrap (((BitVec.ofInt 64 (x : Int) ||| BitVec.ofInt 64 (y : Int)).toNat : Nat) : Int) = _
  rw [e]
  have : x ||| y < 18446744073709551616 := Nat.or_lt_two_pow (n := 64) hx hy
  exact wrapU64 (by omega) (by omega)
theorem andU64 {x y : Nat} (hx : x < 18446744073709551616) (hy : y < 18446744073709551616) : bitI .and .u64 x y = ((x &&& y : Nat) : Int) := by
  have e : (BitVec.ofInt 64 (x : Int) &&& BitVec.ofInt 64 (y : Int)).toNat = x &&& y := by rw [BitVec.toNat_and, bv_toNat 64 x hx, bv_toNat 64 y hy]
  show IntKind.u64.wrap (((BitVec.ofInt 64 (x : Int) &&& BitVec.ofInt 64 (y : Int)).toNat : Nat) : Int) = _
  rw [e]
  have : x &&& y < 18446744073709551616 := Nat.and_lt_two_pow (n := 64) x hy
  exact wrapU64 (by omega) (by omega)

/-- 'x << 8 | y', y a byte. -/
theorem or_byte (x y : Nat) (hy : y < 256) : x * 256 ||| y = x * 256 + y := by
  have := Nat.two_pow_add_eq_or_of_lt (i := 8) (b := y) (by omega) x
  rw [Nat.mul_comm] at this
  exact this.symm

end Go.VC
/- SL, part 11: slices that are only read, as memory of one's own: lent, cut, given back. No condition. -/
namespace Go.VC
set_option linter.unusedVariables false

variable {P : Program} {R : Cx} {Hs Rest : List HP} {w : World} {s : Sl}

/-- The slice s reads xs out of the memory h. -/
structure SlR (h : Heap) (s : Sl) (xs : List Value) : Prop where
  len : s.len = xs.length
  cap : s.len ≤ s.cap
  mem : xs ≠ [] → ∃ b off l T fr, s.a = some ⟨b, off, none⟩ ∧ h b = some (.cells l T fr) ∧ ∀ (i : Nat) v, xs[i]? = some v → l[off + i]? = some v

def Reads (s : Sl) (xs : List Value) : HP := fun h => SlR h s xs

theorem SlR.add {h h' : Heap} {xs : List Value} (a : SlR h s xs) : SlR (h.add h') s xs :=
  ⟨a.len, a.cap, fun hx => let ⟨b, off, l, T, fr, ha, hb, hl⟩ := a.mem hx; ⟨b, off, l, T, fr, ha, by simp only [Heap.add, hb], hl⟩⟩
theorem SlR.addR {h h' : Heap} {xs : List Value} (hd : h'.dis h) (a : SlR h s xs) : SlR (h'.add h) s xs :=
  ⟨a.len, a.cap, fun hx => let ⟨b, off, l, T, fr, ha, hb, hl⟩ := a.mem hx; ⟨b, off, l, T, fr, ha, by
    simp only [Heap.add, hd b (by rw [hb]; simp)]; exact hb, hl⟩⟩
theorem SlR.ro {xs : List Value} (a : SlR R.m s xs) (hb : xs.length ≤ 9223372036854775807) : Ro R s xs :=
  ⟨a.len, hb, a.mem⟩
theorem SlR.take {h : Heap} {xs : List Value} (a : SlR h s xs) {k : Nat} (hk : k ≤ xs.length) : SlR h ⟨s.a, k, s.cap⟩ (xs.take k) :=
  ⟨by simp; omega, by have := a.len; have := a.cap; simp only; omega, fun hx => by
    obtain ⟨b, off, l, T, fr, ha, hb, hl⟩ := a.mem (fun h0 => hx (by rw [h0]; simp))
    refine ⟨b, off, l, T, fr, ha, hb, fun i v hv => hl i v ?_⟩
    rw [List.getElem?_take] at hv
    split at hv
    · exact hv
    · cases hv⟩
theorem SlR.drop {h : Heap} {xs : List Value} (a : SlR h s xs) {k : Nat} (hk : k ≤ xs.length) : SlR h ⟨cutA s.a k s.cap 1, s.len - k, s.cap - k⟩ (xs.drop k) := by
  have hlen := a.len
  have hcap := a.cap
  refine ⟨by simp; omega, by simp only; omega, fun hx => ?_⟩
  obtain ⟨b, off, l, T, fr, ha, hb, hl⟩ := a.mem (fun h0 => hx (by rw [h0]; simp))
  have hlt : 0 < (xs.drop k).length := List.length_pos_iff.2 hx
  rw [List.length_drop] at hlt
  refine ⟨b, off + k, l, T, fr, ?_, hb, fun i v hv => ?_⟩
  · unfold cutA
    rw [if_neg (by omega), ha]
    simp [add_off]
  · rw [List.getElem?_drop] at hv
    rw [Nat.add_assoc]
    exact hl _ _ hv

/-- Lent out. -/
theorem Reads.lend {xs : List Value} (h : Sat R (Reads s xs :: Hs) w) : ∃ x : Heap, R.dis x ∧ SlR (R.add x).m s xs ∧ Sat (R.add x) Hs w ∧ SlR x s xs := by
  obtain ⟨x, hx, hd, hs⟩ := h
  exact ⟨x, hd, SlR.addR hd hx, hs, hx⟩
/-- Given back. -/
theorem Reads.back {xs : List Value} {x : Heap} (hd : R.dis x) (hx : SlR x s xs) (h : Sat (R.add x) Hs w) : Sat R (Reads s xs :: Hs) w := ⟨x, hx, hd, h⟩

theorem Own.reads {T : TypeId} {xs : List Value} (h : Sat R (Own s T xs :: Hs) w) : Sat R (Reads s xs :: Hs) w := by
  rcases Own.cases h with ⟨rfl, rfl, h2⟩ | ⟨b, rest, fr, rfl, hf, h2⟩
  · exact ⟨Heap.none, ⟨rfl, Nat.le_refl _, fun h => absurd rfl h⟩, fun i hi => absurd rfl hi, by rw [Cx.add_none]; exact h2⟩
  · obtain ⟨a, ha, hd, hs⟩ := h2
    refine ⟨a, ⟨rfl, by simp, fun _ => ⟨b, 0, (xs ++ rest).toArray, T, fr, rfl, by rw [ha]; simp [Heap.one], fun i v hv => ?_⟩⟩, hd, hs⟩
    obtain ⟨hi, rfl⟩ := List.getElem?_eq_some_iff.1 hv
    simp [List.getElem?_append_left hi]

/-- An element: integers of any kind. -/
theorem SlR.idxK {kd : IntKind} {xs : List Int} {S : World → Prop} (hr : SlR R.m s (xs.map (Value.int kd))) (hS : ∀ w, S w → Sat R Hs w) {k : Nat} (hk : k < xs.length) {F : Int → Prop} (h : F xs[k]) :
    Rng (k : Int) s.len (NilP s.a fun a => ∃ t : Int, (At S (a.add (k : Int).toNat) [.int kd t]) ∧ F t) := by
  have hl : s.len = xs.length := by have := hr.len; simpa using this
  obtain ⟨b, off, l, T, fr, ha, hb, hel⟩ := hr.mem (by intro h0; rw [List.map_eq_nil_iff] at h0; rw [h0] at hk; simp at hk)
  refine Rng.mk (by omega) (by omega) (NilP.mk ha ⟨xs[k], fun w hw i v hv => ?_, h⟩)
  have hi : i = 0 := by
    cases i with
    | zero => rfl
    | succ i => simp at hv
  subst hi
  simp only [List.getElem?_cons_zero, Option.some.injEq] at hv
  subst hv
  rw [Int.toNat_natCast, add_off, add_off]
  have := (hS w hw).of_ro hb
  simp only [World.cell?, this, Option.isSome_none, Bool.false_eq_true, if_false]
  exact hel k _ (by simp [hk])

end Go.VC
/- Slices of bytes: Clone. No condition. -/
namespace Go.Proofs.YtaacfjdknlglhaaGreatDoor
set_option linter.unusedVariables false
open Go Go.VC

variable {R : Cx} {Hs Rest : List HP} {w : World}

theorem _root_.Go.VC.Sat.re {A : HP} (B : HP) (h : Sat R (A :: Hs) w) (e : A = B := by rfl) : Sat R (B :: Hs) w := e ▸ h

abbrev b8 (l : List Int) : List Value := l.map (Value.int .u8)

theorem elB8 : El Tryz.prog 22 22 5 1 := ⟨Tryz.underlying22, ⟨_, Tryz.underlying22⟩, by kernel_rfl⟩

theorem one_b8 (xs : List Int) : oneAll (b8 xs) = true := by unfold oneAll; simp [Value.oneCell']

/-- A copy of bytes that are only read. -/
theorem clone_spec {s : Sl} {xs : List Int} (hs : Ro R s (b8 xs)) (hl : xs.length ≤ 1099511627776) (hw : Sat R Hs w) :
    Gets Tryz.prog 80 #[.slice s.a s.len s.cap] w fun r w' => ∃ t : Sl, r = .slice t.a t.len t.cap ∧ Sat R (Own t 5 (b8 xs) :: Hs) w' := by
  apply call80
  refine Br.mk (fun h => ?_) (fun h => ?_)
  · have hx : xs = [] := by
      by_cases hx : b8 xs = []
      · simpa using hx
      · obtain ⟨b, off, _, _, _, ha, _⟩ := hs.mem hx
        rw [ha] at h; cases h
    subst hx
    exact ⟨⟨none, 0, 0⟩, rfl, Own.nil hw⟩
  · refine new_rule hw fun b w hw => ?_
    have h0 : Sat R (Own ⟨some ⟨b, 0, none⟩, 0, 0⟩ 5 [] :: Hs) w := Own.of_pts (xs := []) (rest := []) hw
    have hsrc : Src Tryz.prog 1 22 (.slice s.a s.len s.cap) xs.length (b8 xs) w := by
      have := srcRo Tryz.underlying22 h0 hs (one_b8 xs)
      simpa using this
    have := append_rule (ty := 22) (K := fun t w' => ∃ u : Sl, Value.slice t.a t.len t.cap = .slice u.a u.len u.cap ∧ Sat R (Own u 5 (b8 xs) :: Hs) w') elB8 h0 hsrc rfl (by simp; omega) (by simp; omega) fun t w hw => ⟨t, rfl, by simpa using hw⟩
    exact this

end Go.Proofs.YtaacfjdknlglhaaGreatDoor
/- Codes of numbers and of bytes, plain. No program. No condition. -/
namespace Go.VC
set_option linter.unusedVariables false

/-- The digits to the base 256, the highest first. -/
def dig (n : Nat) : List Int := if h : n = 0 then [] else dig (n / 256) ++ [((n % 256 : Nat) : Int)]
termination_by n
decreasing_by omega

theorem dig_zero : dig 0 = [] := by unfold dig; simp
theorem dig_pos {n : Nat} (h : n ≠ 0) : dig n = dig (n / 256) ++ [((n % 256 : Nat) : Int)] := by
  conv => lhs; unfold dig
  rw [dif_neg h]

/-- What digits are worth, behind acc. -/
def valI (acc : Int) (l : List Int) : Int := l.foldl (fun a b => a * 256 + b) acc
theorem valI_nil (acc : Int) : valI acc [] = acc := rfl
theorem valI_cons (acc b : Int) (l : List Int) : valI acc (b :: l) = valI (acc * 256 + b) l := rfl
theorem valI_app (acc : Int) (a b : List Int) : valI acc (a ++ b) = valI (valI acc a) b := List.foldl_append
theorem valI_snoc (acc : Int) (a : List Int) (b : Int) : valI acc (a ++ [b]) = valI acc a * 256 + b := by rw [valI_app]; rfl
theorem valI_nn : ∀ {l : List Int} {acc : Int}, 0 ≤ acc → (∀ x ∈ l, 0 ≤ x ∧ x < 256) → 0 ≤ valI acc l
  | [], _, h, _ => h
  | b :: l, acc, h, hb => by
    rw [valI_cons]
    have := hb b List.mem_cons_self
    exact valI_nn (by omega) fun x hx => hb x (List.mem_cons_of_mem _ hx)
theorem valI_lt : ∀ {l : List Int} {acc : Int}, 0 ≤ acc → (∀ x ∈ l, 0 ≤ x ∧ x < 256) → valI acc l < (acc + 1) * 256 ^ l.length
  | [], acc, h, _ => by simp [valI]; omega
  | b :: l, acc, h, hb => by
    rw [valI_cons]
    have h1 := hb b List.mem_cons_self
    have := valI_lt (l := l) (acc := acc * 256 + b) (by omega) fun x hx => hb x (List.mem_cons_of_mem _ hx)
    refine Int.lt_of_lt_of_le this ?_
    rw [List.length_cons, Int.pow_succ, Int.mul_comm (256 ^ l.length) 256, ← Int.mul_assoc]
    exact Int.mul_le_mul_of_nonneg_right (by omega) (Int.le_of_lt (Int.pow_pos (by decide)))

theorem dig_val (n : Nat) : valI 0 (dig n) = n := by
  induction n using Nat.strongRecOn with
  | ind n ih =>
    by_cases h : n = 0
    · subst h; rw [dig_zero]; rfl
    · rw [dig_pos h, valI_snoc, ih (n / 256) (by omega)]; omega
theorem dig_bd (n : Nat) : ∀ x ∈ dig n, 0 ≤ x ∧ x < 256 := by
  induction n using Nat.strongRecOn with
  | ind n ih =>
    by_cases h : n = 0
    · subst h; rw [dig_zero]; intro x hx; cases hx
    · rw [dig_pos h]
      intro x hx
      rcases List.mem_append.1 hx with hx | hx
      · exact ih (n / 256) (by omega) x hx
      · simp at hx; omega
theorem dig_head (n : Nat) : ∀ x l, dig n = x :: l → x ≠ 0 := by
  induction n using Nat.strongRecOn with
  | ind n ih =>
    intro x l hx
    by_cases h : n = 0
    · subst h; rw [dig_zero] at hx; cases hx
    · rw [dig_pos h] at hx
      by_cases h2 : n / 256 = 0
      · rw [h2, dig_zero] at hx
        simp at hx
        omega
      · cases hd : dig (n / 256) with
        | nil => rw [dig_pos h2] at hd; simp at hd
        | cons y l' =>
          rw [hd] at hx
          simp at hx
          obtain ⟨rfl, _⟩ := hx
          exact ih (n / 256) (by omega) _ _ hd
theorem dig_len_le : ∀ (k n : Nat), n < 256 ^ k → (dig n).length ≤ k
  | 0, n, h => by
    have : n = 0 := by simpa using h
    subst this; rw [dig_zero]; simp
  | k + 1, n, h => by
    by_cases h0 : n = 0
    · subst h0; rw [dig_zero]; simp
    · rw [dig_pos h0, List.length_append]
      have := dig_len_le k (n / 256) (by rw [Nat.pow_succ] at h; exact Nat.div_lt_of_lt_mul (by rwa [Nat.mul_comm] at h))
      simp; omega
theorem dig_len8 {n : Nat} (h : n < 18446744073709551616) : (dig n).length ≤ 8 := dig_len_le 8 n (by simpa using h)

/-- The width that the program reckons. -/
theorem dig_width (n : Nat) (h : n < 18446744073709551616) : (Lib.bitLen n + 7) / 8 = (dig n).length := by
  induction n using Nat.strongRecOn with
  | ind n ih =>
    by_cases h0 : n = 0
    · subst h0; rw [dig_zero]; decide
    · rw [dig_pos h0, List.length_append]
      by_cases h1 : 256 ≤ n
      · rw [Lib.bitLen_shift8 n h1 h, ← ih (n / 256) (by omega) (by omega)]
        simp; omega
      · have e : n / 256 = 0 := by omega
        rw [e, dig_zero]
        have h2 : ∀ m : Fin 256, m.val ≠ 0 → (Lib.bitLen m.val + 7) / 8 = 1 := by decide +kernel
        simpa using h2 ⟨n, by omega⟩ h0

/-- One digit after the other, from the highest on. -/
theorem dig_drop : ∀ (k n : Nat), k ≤ (dig n).length → (dig n).take ((dig n).length - k) = dig (n / 256 ^ k)
  | 0, n, _ => by simp
  | k + 1, n, h => by
    by_cases h0 : n = 0
    · subst h0; rw [dig_zero] at h; simp at h
    · rw [dig_pos h0] at h ⊢
      rw [List.length_append] at h ⊢
      simp only [List.length_cons, List.length_nil] at h ⊢
      have e : (dig (n / 256)).length + (0 + 1) - (k + 1) = (dig (n / 256)).length - k := by omega
      rw [e, List.take_append_of_le_length (by omega), dig_drop k (n / 256) (by omega), Nat.div_div_eq_div_mul, Nat.pow_succ, Nat.mul_comm 256]

theorem dig_get {n k : Nat} (h : k < (dig n).length) : (dig n)[(dig n).length - 1 - k]'(by omega) = ((n / 256 ^ k % 256 : Nat) : Int) := by
  have h1 := dig_drop k n (by omega)
  have hn : n / 256 ^ k ≠ 0 := by
    intro h0
    rw [h0, dig_zero] at h1
    have := congrArg List.length h1
    simp at this; omega
  rw [dig_pos hn] at h1
  have h2 : ((dig n).take ((dig n).length - k)).getLast? = some ((n / 256 ^ k % 256 : Nat) : Int) := by rw [h1]; simp
  rw [List.getLast?_eq_getElem?, List.length_take, Nat.min_eq_left (by omega), List.getElem?_take] at h2
  split at h2
  · rw [List.getElem?_eq_some_iff] at h2
    obtain ⟨h3, h4⟩ := h2
    have e : (dig n).length - 1 - k = (dig n).length - k - 1 := by omega
    simp only [e]
    exact h4
  · cases h2

/-! ### Codes -/
def numB (n : Nat) : List Int := ((dig n).length : Int) :: dig n
def textB (b : List Int) : List Int := numB b.length ++ b

theorem numB_bd {n : Nat} (h : n < 18446744073709551616) : ∀ x ∈ numB n, 0 ≤ x ∧ x < 256 := by
  intro x hx
  rcases List.mem_cons.1 hx with rfl | hx
  · have := dig_len8 h; omega
  · exact dig_bd n x hx
theorem numB_len {n : Nat} (h : n < 18446744073709551616) : (numB n).length ≤ 9 := by
  have := dig_len8 h; unfold numB; simp; omega

/-- The code that stands first: its number, whether it is one below 0, how many bytes it has. -/
def parse (l : List Int) : Option (Int × Bool × Nat) :=
  match l with
  | [] => none
  | k :: rest =>
    let neg := decide (16 ≤ k)
    let w := (if 16 ≤ k then k - 16 else k).toNat
    if k < 32 ∧ w ≤ 8 ∧ w ≤ rest.length ∧ (w = 0 → k = 0) ∧ (w ≠ 0 → rest.head? ≠ some 0) then some (valI 0 (rest.take w), neg, w + 1) else none

theorem parse_num {n : Nat} (h : n < 18446744073709551616) (rest : List Int) : parse (numB n ++ rest) = some ((n : Int), false, (numB n).length) := by
  have h8 := dig_len8 h
  unfold parse numB
  simp only [List.cons_append]
  have e1 : ¬ (16 : Int) ≤ ((dig n).length : Int) := by omega
  rw [if_neg e1]
  rw [if_pos]
  · simp only [Int.toNat_natCast, List.take_left', dig_val, List.length_cons, Option.some.injEq, Prod.mk.injEq, and_true, true_and]
    simpa using e1
  · refine ⟨by omega, by omega, by simp, fun h0 => by omega, fun h0 => ?_⟩
    simp only [Int.toNat_natCast] at h0
    cases hd : dig n with
    | nil => rw [hd] at h0; simp at h0
    | cons x l =>
      have := dig_head n x l hd
      simp; exact this

theorem parse_bd {l : List Int} {n : Int} {neg : Bool} {k : Nat} (hb : ∀ x ∈ l, 0 ≤ x ∧ x < 256) (h : parse l = some (n, neg, k)) : 0 ≤ n ∧ n < 18446744073709551616 ∧ 1 ≤ k ∧ k ≤ 9 ∧ k ≤ l.length := by
  unfold parse at h
  split at h
  · cases h
  · rename_i c rest
    simp only at h
    generalize hw : (if 16 ≤ c then c - 16 else c).toNat = w at h
    split at h
    · rename_i hc
      obtain ⟨_, h8, hr, _, _⟩ := hc
      simp only [Option.some.injEq, Prod.mk.injEq] at h
      obtain ⟨rfl, _, rfl⟩ := h
      have hb2 : ∀ x ∈ rest.take w, 0 ≤ x ∧ x < 256 := fun x hx => hb x (List.mem_cons_of_mem _ (List.mem_of_mem_take hx))
      refine ⟨valI_nn (Int.le_refl _) hb2, ?_, by omega, by omega, by simp; omega⟩
      refine Int.lt_of_lt_of_le (valI_lt (Int.le_refl _) hb2) ?_
      rw [List.length_take, Nat.min_eq_left hr, Int.zero_add, Int.one_mul]
      have h9 : 256 ^ w ≤ 256 ^ 8 := Nat.pow_le_pow_right (by omega) h8
      have : ((256 ^ w : Nat) : Int) ≤ ((256 ^ 8 : Nat) : Int) := Int.ofNat_le.2 h9
      rw [Int.natCast_pow] at this
      exact Int.le_trans this (by decide)
    · cases h

/-! ### A reader -/
structure Rd where
  bs : List Int
  bad : Bool
def rdNum (most : Int) (r : Rd) : Int × Rd :=
  if r.bad then (0, r) else match parse r.bs with
  | some (n, neg, k) => if neg = false ∧ n ≤ most then (n, ⟨r.bs.drop k, false⟩) else (0, ⟨r.bs, true⟩)
  | none => (0, ⟨r.bs, true⟩)
def rdText (most : Int) (r : Rd) : List Int × Rd :=
  if r.bad then ([], r) else match parse r.bs with
  | some (n, neg, k) => if neg = false ∧ 0 ≤ most ∧ n ≤ most ∧ n ≤ ((r.bs.length : Int) - k) then (((r.bs.drop k).take n.toNat), ⟨r.bs.drop (k + n.toNat), false⟩) else ([], ⟨r.bs, true⟩)
  | none => ([], ⟨r.bs, true⟩)
def rdWhole (r : Rd) : Bool := !r.bad && decide (r.bs.length = 0)

end Go.VC
/- Package field: numbers and bytes as bytes. Condition: bounds on lengths. -/
namespace Go.Proofs.YtaacfjdknlglhaaGreatDoor
set_option linter.unusedVariables false
open Go Go.VC

variable {R : Cx} {Hs Rest : List HP} {w : World}

theorem _root_.Go.VC.SlR.mono {h h' : Heap} {s : Sl} {xs : List Value} (hs : ∀ b o, h b = some o → h' b = some o) (a : SlR h s xs) : SlR h' s xs :=
  ⟨a.len, a.cap, fun hx => let ⟨b, off, l, T, fr, ha, hb, hl⟩ := a.mem hx; ⟨b, off, l, T, fr, ha, hs _ _ hb, hl⟩⟩

abbrev amissP : List PanicEntry := [⟨.iface 148 (.agg #[]), false, false⟩]

theorem must_c {b : Bool} {Q : Ending → World → Prop} (h1 : b = true → Q (.returned (.tuple #[])) w) (h2 : b = false → Q (.panicked amissP) w) : Calls Tryz.prog 84 #[.bool b] w Q := by
  have h : GetsX Tryz.prog 84 #[.bool b] w (fun ch w' => b = false ∧ ch = amissP ∧ w' = w) (fun v w' => b = true ∧ v = .tuple #[] ∧ w' = w) := by
    apply call84
    refine Br.nb (fun h => ?_) (fun h => ?_)
    · exact ⟨h, rfl, rfl⟩
    · exact ⟨h, rfl, rfl⟩
  refine h.use ?_ ?_
  · rintro v w' ⟨hb, rfl, e⟩; rw [e]; exact h1 hb
  · rintro v w' ⟨hb, rfl, e⟩; rw [e]; exact h2 hb

/-- A block with a slice. -/
abbrev lp (l : Nat) (s : Sl) : HP := pts l (.cells [.slice s.a s.len s.cap].toArray 22 (0, 0))
abbrev sdrop (s : Sl) (k : Nat) : Sl := ⟨cutA s.a k s.cap 1, s.len - k, s.cap - k⟩

theorem take_spec {l : Nat} {s : Sl} {xs : List Value} {k : Nat} (hr : SlR R.m s xs) (hw : Sat R (lp l s :: Hs) w) :
    GetsX Tryz.prog 117 #[.pointer (some ⟨l, 0, none⟩), .int .i64 k] w
      (fun ch w' => xs.length < k ∧ ch = amissP ∧ Sat R (lp l s :: Hs) w')
      (fun v w' => k ≤ xs.length ∧ v = .slice s.a k s.cap ∧ Sat R (lp l (sdrop s k) :: Hs) w') := by
  have hlen := hr.len
  have hcap := hr.cap
  apply call117
  refine NilP.mk rfl ⟨s, At.own (eqS hw) (by exact ⟨rfl, trivial⟩), must_c (fun h => .inl ⟨rfl, ?_⟩) (fun h => .inr ⟨_, rfl, ?_⟩)⟩
  · have h := of_decide_eq_true h
    refine NilP.mk rfl ⟨s, At.own (eqS hw) (by exact ⟨rfl, trivial⟩), by omega, by omega, NilP.mk rfl ⟨s, At.own (eqS hw) (by exact ⟨rfl, trivial⟩), by omega, by omega, NilP.mk rfl ?_⟩⟩
    rw [Int.toNat_natCast]
    refine store_rule hw (by kernel_rfl) rfl (by simp [Value.cells]) fun w hw => ?_
    exact ⟨by omega, rfl, hw⟩
  · have h := of_decide_eq_false h
    exact ⟨by omega, rfl, hw⟩

theorem andn32 : ∀ c : Fin 32, bitI .andNot .u8 ((c.1 : Nat) : Int) 16 = if 16 ≤ ((c.1 : Nat) : Int) then ((c.1 : Nat) : Int) - 16 else ((c.1 : Nat) : Int) := by decide +kernel
theorem andn {c : Int} (h0 : 0 ≤ c) (h1 : c < 32) : IntKind.i64.wrap (bitI .andNot .u8 c 16) = if 16 ≤ c then c - 16 else c := by
  obtain ⟨n, rfl⟩ := Int.eq_ofNat_of_zero_le h0
  have := andn32 ⟨n, by omega⟩
  simp only at this
  rw [this]
  split <;> exact wrap64 (by omega) (by omega)

theorem shl8_or {n t : Int} (h0 : 0 ≤ n) (h1 : n < 72057594037927936) (t0 : 0 ≤ t) (t1 : t < 256) : bitI .or .u64 (shlI .u64 n 8) (IntKind.u64.wrap t) = n * 256 + t := by
  have e : shlI .u64 n 8 = n * 256 := by
    show IntKind.u64.wrap (n * 2 ^ 8) = _
    rw [wrapU64 (by omega) (by omega)]; omega
  rw [e, wrapU64 t0 (by omega)]
  obtain ⟨a, rfl⟩ := Int.eq_ofNat_of_zero_le h0
  obtain ⟨b, rfl⟩ := Int.eq_ofNat_of_zero_le t0
  have := orU64 (x := a * 256) (y := b) (by omega) (by omega)
  rw [or_byte a b (by omega)] at this
  rw [show ((a * 256 : Nat) : Int) = (a : Int) * 256 from Int.natCast_mul a 256] at this
  rw [this]
  exact (Int.natCast_add (a * 256) b).trans (by rw [Int.natCast_mul]; rfl)

/-- How many bytes follow. -/
abbrev widN (c : Int) : Nat := (if 16 ≤ c then c - 16 else c).toNat

theorem fsize_spec {h : Heap} {l : Nat} {s : Sl} {bs : List Int} (hb : ∀ x ∈ bs, 0 ≤ x ∧ x < 256) (hsub : ∀ b o, h b = some o → R.m b = some o) (hr0 : SlR h s (b8 bs)) (hw : Sat R (lp l s :: Hs) w) :
    GetsX Tryz.prog 83 #[.pointer (some ⟨l, 0, none⟩)] w
      (fun ch w' => parse bs = none ∧ ch = amissP ∧ ∃ s', Sat R (lp l s' :: Hs) w')
      (fun v w' => ∃ n neg k s', parse bs = some (n, neg, k) ∧ v = .tuple #[.int .u64 n, .bool neg] ∧ SlR h s' (b8 (bs.drop k)) ∧ Sat R (lp l s' :: Hs) w') := by
  have hr : SlR R.m s (b8 bs) := hr0.mono hsub
  apply call83
  refine (take_spec (k := 1) hr hw).use ?_ ?_
  rotate_left
  · rintro _ w ⟨h, rfl, hw⟩
    refine .inr ⟨_, rfl, ?_, rfl, s, hw⟩
    cases bs with
    | nil => rfl
    | cons => simp at h
  rintro _ w ⟨hlen, rfl, hw⟩
  cases bs with
  | nil => simp at hlen
  | cons c rest =>
  have hc := hb c List.mem_cons_self
  have hbr : ∀ x ∈ rest, 0 ≤ x ∧ x < 256 := fun x hx => hb x (List.mem_cons_of_mem _ hx)
  refine .inl ⟨⟨s.a, 1, s.cap⟩, rfl, ?_⟩
  have hr1 : SlR R.m ⟨s.a, 1, s.cap⟩ (b8 [c]) := hr.take (k := 1) hlen
  have hrd : SlR R.m (sdrop s 1) (b8 rest) := hr.drop (k := 1) hlen
  have := SlR.idxK (Hs := lp l (sdrop s 1) :: Hs) (S := fun w' => w' = w) hr1 (eqS hw) (k := 0) (by simp) (F := fun t => t = c) rfl
  obtain ⟨h0, h1, this⟩ := this.out
  obtain ⟨a, ha, t, hat, rfl⟩ := this.out
  refine Rng.mk h0 h1 (NilP.mk ha ⟨t, hat, ?_⟩)
  have hsnone : ∀ {p : Prop}, ¬ p → True := fun _ => trivial
  refine ⟨fun w => (t < 32 ∧ widN t ≤ 8 ∧ (widN t = 0 → t = 0)) ∧ Sat R (lp l (sdrop s 1) :: Hs) w, ?_, ?_⟩
  · have bad : (t < 32 ∧ widN t ≤ 8 ∧ widN t ≤ rest.length ∧ (widN t = 0 → t = 0) ∧ (widN t ≠ 0 → rest.head? ≠ some 0) → False) → parse (t :: rest) = none := fun h => by
      unfold parse; simp only; rw [if_neg h]
    refine Br.d (fun h => ?_) (fun h => ?_)
    · rw [andn hc.1 h]
      refine Br.d (fun h2 => ?_) (fun h2 => ?_)
      · refine Br.d (fun h3 => ?_) (fun h3 => ?_)
        · exact must_c (fun _ => .inl ⟨rfl, ⟨h, by unfold widN; omega, fun h4 => by unfold widN at h4; omega⟩, hw⟩) (fun h => by cases h)
        · refine must_c (fun h4 => .inl ⟨rfl, ⟨h, by unfold widN; omega, fun h5 => ?_⟩, hw⟩) (fun h4 => .inr ⟨_, rfl, bad ?_, rfl, _, hw⟩)
          · simp only [ge_iff_le, Bool.not_eq_true', decide_eq_false_iff_not] at h4
            rw [if_neg h4] at h3; omega
          · simp only [ge_iff_le, Bool.not_eq_false', decide_eq_true_eq] at h4
            rintro ⟨_, _, _, h5, _⟩
            rw [if_pos h4] at h3
            have := h5 (by unfold widN; rw [if_pos h4]; omega)
            omega
      · exact must_c (fun h => by cases h) (fun _ => .inr ⟨_, rfl, bad (by rintro ⟨_, h3, _⟩; unfold widN at h3; omega), rfl, _, hw⟩)
    · exact must_c (fun h => by cases h) (fun _ => .inr ⟨_, rfl, bad (by rintro ⟨h3, _⟩; exact h h3), rfl, _, hw⟩)
  clear hat ha h0 h1
  rintro _ w ⟨⟨h32, h8, hz⟩, hw⟩
  rw [andn hc.1 h32]
  have hwid : (if 16 ≤ t then t - 16 else t) = ((widN t : Nat) : Int) := by
    unfold widN; rw [Int.toNat_of_nonneg]; split <;> omega
  rw [hwid]
  generalize hW : widN t = W at *
  refine (take_spec (k := W) hrd hw).use ?_ ?_
  rotate_left
  · rintro _ w ⟨h, rfl, hw⟩
    refine .inr ⟨_, rfl, ?_, rfl, _, hw⟩
    unfold parse; simp only; rw [if_neg]
    rintro ⟨_, _, h3, _⟩
    have : widN t ≤ rest.length := h3
    simp at h; omega
  rintro _ w ⟨hl, rfl, hw⟩
  have hl : W ≤ rest.length := by simpa using hl
  have hrt : SlR R.m ⟨(sdrop s 1).a, W, (sdrop s 1).cap⟩ (b8 (rest.take W)) := by have := hrd.take (k := W) (by simpa using hl); rwa [← List.map_take] at this
  have hlt : (rest.take W).length = W := by simp; omega
  refine .inl ⟨⟨(sdrop s 1).a, W, (sdrop s 1).cap⟩, rfl, ?_⟩
  refine ⟨fun n i w => ∃ k : Nat, i = k ∧ k ≤ W ∧ n = valI 0 (rest.take k) ∧ (k ≠ 0 → rest.head? ≠ some 0) ∧ Sat R (lp l (sdrop (sdrop s 1) W) :: Hs) w, fun _ i _ => W - i.toNat, ⟨0, rfl, Nat.zero_le _, rfl, fun h => absurd rfl h, hw⟩, ?_⟩
  rintro _ _ _ w ⟨k, rfl, hk, rfl, hh, hw⟩
  refine Br.d (fun h => ?_) (fun h => ?_)
  · have hk2 : k < W := by have : ((k : Nat) : Int) < (W : Int) := h; omega
    have hkr : k < rest.length := by omega
    have := SlR.idxK (Hs := lp l (sdrop (sdrop s 1) W) :: Hs) (S := fun w' => w' = w) hrt (eqS hw) (k := k) (by omega) (F := fun t => t = rest[k]) (by simp)
    obtain ⟨h0, h1, this⟩ := this.out
    obtain ⟨a, ha, x, hat, rfl⟩ := this.out
    refine Rng.mk h0 h1 (NilP.mk ha ⟨_, hat, ?_⟩)
    have hx := hbr rest[k] (List.getElem_mem _)
    have hvb : ∀ x ∈ rest.take k, 0 ≤ x ∧ x < 256 := fun x hx => hbr x (List.mem_of_mem_take hx)
    have hv0 := valI_nn (acc := 0) (Int.le_refl _) hvb
    have hv1 : valI 0 (rest.take k) < 72057594037927936 := by
      refine Int.lt_of_lt_of_le (valI_lt (Int.le_refl _) hvb) ?_
      rw [List.length_take, Nat.min_eq_left (by omega), Int.zero_add, Int.one_mul]
      have h9 : 256 ^ k ≤ 256 ^ 7 := Nat.pow_le_pow_right (by omega) (by omega)
      have : ((256 ^ k : Nat) : Int) ≤ ((256 ^ 7 : Nat) : Int) := Int.ofNat_le.2 h9
      rw [Int.natCast_pow] at this
      exact Int.le_trans this (by decide)
    have hstep : ∀ w, (rest.head? ≠ some 0) → Sat R (lp l (sdrop (sdrop s 1) W) :: Hs) w →
        (∃ k' : Nat, IntKind.i64.wrap ((k : Int) + 1) = k' ∧ k' ≤ W ∧ bitI .or .u64 (shlI .u64 (valI 0 (rest.take k)) 8) (IntKind.u64.wrap rest[k]) = valI 0 (rest.take k') ∧ (k' ≠ 0 → rest.head? ≠ some 0) ∧ Sat R (lp l (sdrop (sdrop s 1) W) :: Hs) w) ∧ W - (IntKind.i64.wrap ((k : Int) + 1)).toNat < W - (k : Int).toNat := fun w h1 hw => by
      rw [wrap64 (by omega) (by omega)]
      refine ⟨⟨k + 1, by omega, by omega, ?_, fun _ => h1, hw⟩, by omega⟩
      rw [shl8_or hv0 hv1 hx.1 hx.2, List.take_succ_eq_append_getElem hkr, valI_snoc]
    refine Br.d (fun h3 => ?_) (fun h3 => ?_)
    · exact must_c (fun _ => .inl ⟨rfl, hstep _ (hh (by omega)) hw⟩) (fun h => by cases h)
    · have hk0 : k = 0 := by omega
      subst hk0
      have hhead : rest.head? = some rest[0] := by rw [List.head?_eq_getElem?, List.getElem?_eq_getElem hkr]
      refine must_c (fun h4 => .inl ⟨rfl, hstep _ ?_ hw⟩) (fun h4 => .inr ⟨_, rfl, ?_, rfl, _, hw⟩)
      · have h4 := of_decide_eq_true h4
        rw [hhead]; intro h5; simp only [Option.some.injEq] at h5; omega
      · have h4 := of_decide_eq_false h4
        unfold parse; simp only; rw [if_neg]
        rintro ⟨_, _, _, _, h5⟩
        have h6 : widN t ≠ 0 := by omega
        refine h5 h6 ?_
        rw [hhead]; congr 1; omega
  · have hkW : k = W := by have : ¬ ((k : Nat) : Int) < (W : Int) := h; omega
    subst hkW
    refine ⟨valI 0 (rest.take k), decide (t ≥ 16), k + 1, sdrop (sdrop s 1) k, ?_, rfl, ?_, ?_⟩
    · unfold parse; simp only
      have e : (if 16 ≤ t then t - 16 else t).toNat = k := hW
      rw [e, if_pos ⟨h32, h8, hl, hz, hh⟩]
    · have := (hr0.drop (k := 1) hlen).drop (k := k) (by simpa using hl)
      simpa using this
    · exact hw

end Go.Proofs.YtaacfjdknlglhaaGreatDoor
/- Package field: Number; reading in general. Condition: none. -/
namespace Go.Proofs.YtaacfjdknlglhaaGreatDoor
set_option linter.unusedVariables false
open Go Go.VC

variable {R : Cx} {Hs Rest : List HP} {w : World}

theorem shr_nat (n k : Nat) (hk : k ≤ 64) : shrI .u64 (n : Int) (k : Int) = ((n / 2 ^ k : Nat) : Int) := by
  have e : min ((k : Int).toNat) IntKind.u64.bits = k := by rw [Int.toNat_natCast]; exact Nat.min_eq_left hk
  unfold shrI
  rw [e, Int.fdiv_eq_ediv_of_nonneg _ (by exact Int.le_of_lt (Int.pow_pos (by decide)))]
  rw [show ((2 : Int) ^ k) = ((2 ^ k : Nat) : Int) from (Int.natCast_pow 2 k).symm]
  exact (Int.natCast_ediv n (2 ^ k)).symm
theorem shr32 (n : Nat) : shrI .u64 (n : Int) 32 = ((n / 4294967296 : Nat) : Int) := shr_nat n 32 (by omega)
theorem shr16 (n : Nat) : shrI .u64 (n : Int) 16 = ((n / 65536 : Nat) : Int) := shr_nat n 16 (by omega)
theorem shr8 (n : Nat) : shrI .u64 (n : Int) 8 = ((n / 256 : Nat) : Int) := shr_nat n 8 (by omega)

theorem len64_spec {n : Nat} (hn : n < 18446744073709551616) (hw : Sat R Hs w) :
    Gets Tryz.prog 111 #[.int .u64 n] w fun v w' => v = .int .i64 (Lib.bitLen n : Nat) ∧ Sat R Hs w' := by
  apply call111
  refine ⟨fun x j w => ∃ m i : Nat, x = m ∧ j = i ∧ m < 4294967296 ∧ i ≤ 32 ∧ Lib.bitLen n = i + Lib.bitLen m ∧ Sat R Hs w, ?_, ?_⟩
  · refine Br.d (fun h => ?_) (fun h => ?_)
    · rw [shr32]
      exact ⟨n / 4294967296, 32, rfl, rfl, by omega, by omega, Lib.bitLen_shift32 n (by omega) hn, hw⟩
    · exact ⟨n, 0, rfl, rfl, by omega, by omega, by omega, hw⟩
  rintro _ _ _ w ⟨m, i, rfl, rfl, hm, hi, he, hw⟩
  refine ⟨fun x j w => ∃ m i : Nat, x = m ∧ j = i ∧ m < 65536 ∧ i ≤ 48 ∧ Lib.bitLen n = i + Lib.bitLen m ∧ Sat R Hs w, ?_, ?_⟩
  · refine Br.d (fun h => ?_) (fun h => ?_)
    · rw [shr16, wrap64 (by omega) (by omega)]
      exact ⟨m / 65536, i + 16, rfl, by omega, by omega, by omega, by have := Lib.bitLen_shift16 m (by omega) (by omega); omega, hw⟩
    · exact ⟨m, i, rfl, rfl, by omega, by omega, he, hw⟩
  clear hm hi he hw
  rintro _ _ _ w ⟨m, i, rfl, rfl, hm, hi, he, hw⟩
  refine Br.d (fun h => ?_) (fun h => ?_)
  · rw [shr8, wrapU8 (by omega) (by omega)]
    have h8 : Lib.bitLen (m / 256) ≤ 8 := Lib.bitLen_le8 ⟨m / 256, by omega⟩
    refine ⟨UInt8.ofNat (Lib.bitLen (m / 256)), by omega, ?_, ?_, hw⟩
    · rw [Int.toNat_natCast]
      obtain ⟨q, hq⟩ : ∃ q : Fin 256, q.1 = m / 256 := ⟨⟨m / 256, by omega⟩, rfl⟩
      rw [← hq]
      clear hq h8 hw he hi hm h
      revert q
      decide +kernel
    · have : (UInt8.ofNat (Lib.bitLen (m / 256))).toNat = Lib.bitLen (m / 256) := by simp; omega
      have h2 := Lib.bitLen_shift8 m (by omega) (by omega)
      rw [this, wrap64 (x := ((Lib.bitLen (m / 256) : Nat) : Int)) (by omega) (by omega), wrap64 (x := (i : Int) + 8) (by omega) (by omega), wrap64 (by omega) (by omega)]
      congr 1; omega
  · rw [wrapU8 (by omega) (by omega)]
    have h8 : Lib.bitLen m ≤ 8 := Lib.bitLen_le8 ⟨m, by omega⟩
    refine ⟨UInt8.ofNat (Lib.bitLen m), by omega, ?_, ?_, hw⟩
    · rw [Int.toNat_natCast]
      obtain ⟨q, hq⟩ : ∃ q : Fin 256, q.1 = m := ⟨⟨m, by omega⟩, rfl⟩
      rw [← hq]
      clear hq h8 hw he hi hm h
      revert q
      decide +kernel
    · have : (UInt8.ofNat (Lib.bitLen m)).toNat = Lib.bitLen m := by simp; omega
      rw [this, wrap64 (x := ((Lib.bitLen m : Nat) : Int)) (by omega) (by omega), wrap64 (by omega) (by omega)]
      congr 1; omega

theorem number_spec {n : Nat} (hn : n < 18446744073709551616) (hw : Sat R Hs w) :
    Gets Tryz.prog 72 #[.int .u64 n] w fun v w' => ∃ t : Sl, v = .slice t.a t.len t.cap ∧ Sat R (Own t 5 (b8 (numB n)) :: Hs) w' := by
  apply call72
  refine (len64_spec hn hw).use ?_
  rintro _ w ⟨rfl, hw⟩
  refine ⟨_, rfl, ?_⟩
  have hwid := dig_width n hn
  have h8 := dig_len8 hn
  generalize hL : (dig n).length = L at *
  have e : IntKind.i64.wrap ((IntKind.i64.wrap (((Lib.bitLen n : Nat) : Int) + 7)).tdiv 8) = (L : Int) := by
    rw [wrap64 (x := ((Lib.bitLen n : Nat) : Int) + 7) (by omega) (by omega), Int.tdiv_eq_ediv_of_nonneg (by omega), wrap64 (by omega) (by omega)]
    omega
  rw [e, wrapU8 (by omega) (by omega)]
  refine new_rule hw fun b w hw => ?_
  have h0 : Sat R (Own ⟨some ⟨b, 0, none⟩, 1, 1⟩ 5 (b8 [(L : Int)]) :: Hs) w := Own.of_pts (xs := b8 [(L : Int)]) (rest := []) hw
  refine ⟨fun wd out w => ∃ k : Nat, wd = k ∧ k ≤ L ∧ Sat R (Own out 5 (b8 ((L : Int) :: (dig n).take (L - k))) :: Hs) w, fun wd _ _ => wd.toNat, ⟨L, rfl, Nat.le_refl _, by simpa using h0⟩, ?_⟩
  clear hw h0
  rintro _ _ out w ⟨k, rfl, hk, hw⟩
  refine Br.d (fun h => ?_) (fun h => ?_)
  · have e1 : IntKind.i64.wrap ((k : Int) - 1) = ((k - 1 : Nat) : Int) := by rw [wrap64 (by omega) (by omega)]; omega
    have e2 : IntKind.i64.wrap (8 * ((k - 1 : Nat) : Int)) = ((8 * (k - 1) : Nat) : Int) := by rw [wrap64 (by omega) (by omega)]; omega
    rw [e1, e2, shr_nat n _ (by omega)]
    refine Ge0.mk (by omega) ?_
    have hd := dig_get (n := n) (k := k - 1) (by omega)
    have hlen : ((L : Int) :: (dig n).take (L - k)).length ≤ 9 := by simp; omega
    refine push_rule elB8 hw (one_b8 _) rfl (by rw [List.length_map]; omega) (by rw [List.length_map]; omega) fun t w hw => ⟨⟨k - 1, rfl, by omega, ?_⟩, by show ((k - 1 : Nat) : Int).toNat < (k : Int).toNat; omega⟩
    have e3 : ((L : Int) :: (dig n).take (L - (k - 1))) = ((L : Int) :: (dig n).take (L - k)) ++ [IntKind.u8.wrap ((n / 2 ^ (8 * (k - 1)) : Nat) : Int)] := by
      have e4 : L - (k - 1) = (L - k) + 1 := by omega
      rw [e4, List.take_succ_eq_append_getElem (by omega), List.cons_append]
      congr 3
      rw [wrapU8m, show (2 : Nat) ^ (8 * (k - 1)) = 256 ^ (k - 1) from by rw [Nat.pow_mul], show ((n / 256 ^ (k - 1) : Nat) : Int) % 256 = ((n / 256 ^ (k - 1) % 256 : Nat) : Int) from (Int.natCast_emod _ _).symm, ← hd]
      congr 1; omega
    rw [e3]
    simpa [b8] using hw
  · have hk0 : k = 0 := by omega
    subst hk0
    refine ⟨out, rfl, ?_⟩
    have : (dig n).take (L - 0) = dig n := List.take_of_length_le (by omega)
    rw [this] at hw
    unfold numB
    rw [hL]; exact hw

/-! ### A reader -/
abbrev rdCells (s : Sl) (bad : Bool) : Obj := .cells [.slice s.a s.len s.cap, .bool bad].toArray 118 (0, 0)
def RdAt (r : Nat) (rd : Rd) : HP := exs fun s : Sl => Star [pts r (rdCells s rd.bad), Reads s (b8 rd.bs)]
theorem Sat.rd {r : Nat} {rd : Rd} : Sat R (RdAt r rd :: Hs) w ↔ ∃ s : Sl, Sat R (pts r (rdCells s rd.bad) :: Reads s (b8 rd.bs) :: Hs) w := by
  unfold RdAt
  rw [Sat.exs]
  exact ⟨fun ⟨s, h⟩ => ⟨s, Sat.star.1 h⟩, fun ⟨s, h⟩ => ⟨s, Sat.star.2 h⟩⟩

abbrev brCell (r : Nat) : Obj := .cells [.pointer (some ⟨r, 0, none⟩)].toArray 68 (0, 0)

theorem leaveP {br r : Nat} {s : Sl} {bad : Bool} {Kr : World → Prop} (hw : Sat R (pts br (brCell r) :: pts r (rdCells s bad) :: Hs) w) (k : ∀ w, Sat R (pts br (brCell r) :: pts r (rdCells s true) :: Hs) w → Kr w) :
    LeaveF Tryz.prog 116 [.pointer (some ⟨br, 0, none⟩)] (.panicking amissP) Kr w := by
  unfold LeaveF
  refine CallsD.mono (callP116 (some ⟨br, 0, none⟩) (.iface 148 (.agg #[])) Kr w ?_) ?_
  · refine ⟨true, fun w' _ => by kernel_rfl, Br.t rfl ?_⟩
    refine NilP.mk rfl ⟨some ⟨r, 0, none⟩, At.own (eqS hw) (by exact ⟨rfl, trivial⟩), NilP.mk rfl ?_⟩
    have hw := hw.swap
    refine store_rule hw (by kernel_rfl) rfl (by simp [Value.cells]) fun w hw => ?_
    exact k w hw.swap
  · rintro e v w' ⟨hy, rfl, hk⟩
    exact ⟨hy, rfl, hk⟩

theorem leaveR {br : Nat} {Kr : World → Prop} (k : Kr w) : LeaveF Tryz.prog 116 [.pointer (some ⟨br, 0, none⟩)] .returning Kr w := by
  unfold LeaveF
  refine CallsD.mono (callR116 (some ⟨br, 0, none⟩) Kr w ?_) ?_
  · exact ⟨false, fun w' _ => by kernel_rfl, Br.f rfl k⟩
  · rintro e v w' ⟨hy, rfl, hk⟩
    exact ⟨hy, rfl, hk⟩

theorem reading_spec {r : Nat} {rd : Rd} {one : Value} {α : Type} {f : α → List Int} {Hs1 : α → List HP} {Hs2 : List HP} {G : α → Prop} {N : Prop} (hw : Sat R (RdAt r rd :: Hs) w)
    (hone : rd.bad = false → ∀ (x : Heap) (l : Nat) (s : Sl) (A B : HP) (w : World), (∀ b o, x b = some o → (R.add x).m b = some o) → SlR x s (b8 rd.bs) → Sat (R.add x) (lp l s :: A :: B :: Hs) w →
      CalW Tryz.prog cl one [.pointer (some ⟨l, 0, none⟩)] w fun e w' =>
        (e = .returned (.tuple #[]) ∧ ∃ y s', G y ∧ SlR x s' (b8 (f y)) ∧ Sat (R.add x) (lp l s' :: A :: B :: Hs1 y) w') ∨
        (e = .panicked amissP ∧ N ∧ ∃ s', Sat (R.add x) (lp l s' :: A :: B :: Hs2) w')) :
    Gets Tryz.prog 81 #[.pointer (some ⟨r, 0, none⟩), one] w fun v w' => v = .tuple #[] ∧
      ((rd.bad = true ∧ Sat R (RdAt r rd :: Hs) w') ∨ (rd.bad = false ∧ ∃ y, G y ∧ Sat R (RdAt r ⟨f y, false⟩ :: Hs1 y) w') ∨ (rd.bad = false ∧ N ∧ Sat R (RdAt r ⟨rd.bs, true⟩ :: Hs2) w')) := by
  obtain ⟨s, hw⟩ := Sat.rd.1 hw
  apply call81
  refine new_rule hw fun br w hw => ?_
  refine ⟨_, At.own (eqS hw) (by exact ⟨rfl, trivial⟩), NilP.mk rfl ?_⟩
  refine ⟨_, At.own (eqS hw) (by exact ⟨rfl, trivial⟩), must_c (fun h => .inl ⟨rfl, ?_⟩) (fun h => .inr ⟨_, rfl, ?_⟩)⟩
  · have hbad : rd.bad = false := by simpa using h
    refine ⟨_, At.own (eqS hw) (by exact ⟨rfl, trivial⟩), NilP.mk rfl ?_⟩
    refine ⟨_, At.own (eqS hw) (by exact ⟨rfl, trivial⟩), ?_⟩
    refine new_rule hw fun l w hw => ?_
    have hw : Sat R (pts l (.cells [.slice none 0 0].toArray 22 (0, 0)) :: pts br (brCell r) :: pts r (rdCells s rd.bad) :: Reads s (b8 rd.bs) :: Hs) w := hw
    refine store_rule hw (by kernel_rfl) rfl (by simp [Value.cells]) fun w hw => ?_
    have hw : Sat R (lp l s :: pts br (brCell r) :: pts r (rdCells s rd.bad) :: Reads s (b8 rd.bs) :: Hs) w := hw
    have hw : Sat R (Reads s (b8 rd.bs) :: lp l s :: pts br (brCell r) :: pts r (rdCells s rd.bad) :: Hs) w := hw.arr
    obtain ⟨x, hd, _, hx, hs⟩ := Reads.lend hw
    have hsub : ∀ b o, x b = some o → (R.add x).m b = some o := fun b o hb => by
      have := hd b (by rw [hb]; simp)
      simp only [Cx.add, Heap.add, this, hb]
    refine CalW.mono (hone hbad x l s _ _ w hsub hs hx) ?_
    rintro e w' (⟨rfl, bs', s', hg, hs', hw⟩ | ⟨rfl, hn, s', hw⟩)
    · refine .inl ⟨rfl, ?_⟩
      have hw : Sat (R.add x) (pts br (brCell r) :: pts r (rdCells s rd.bad) :: lp l s' :: Hs1 bs') w' := hw.arr
      refine ⟨_, At.own (eqS hw) (by exact ⟨rfl, trivial⟩), ?_⟩
      refine ⟨_, At.own (eqS hw) (by exact ⟨rfl, trivial⟩), NilP.mk rfl ?_⟩
      have hw : Sat (R.add x) (pts r (rdCells s rd.bad) :: lp l s' :: pts br (brCell r) :: Hs1 bs') w' := hw.arr
      refine store_rule hw (by kernel_rfl) rfl (by simp [Value.cells]) fun w hw => ?_
      refine leaveR ⟨rfl, .inr (.inl ⟨hbad, bs', hg, ?_⟩)⟩
      have hw : Sat (R.add x) (pts r (rdCells s' rd.bad) :: lp l s' :: pts br (brCell r) :: Hs1 bs') w := hw
      rw [hbad] at hw
      have hw : Sat (R.add x) (pts r (rdCells s' false) :: Hs1 bs') w := hw.cons fun _ h => h.drop.drop
      refine Sat.rd.2 ⟨s', ?_⟩
      exact (Reads.back hd hs' hw).swap
    · refine .inr ⟨_, rfl, ?_⟩
      have hw : Sat (R.add x) (pts br (brCell r) :: pts r (rdCells s rd.bad) :: lp l s' :: Hs2) w' := hw.arr
      refine leaveP hw fun w hw => ⟨rfl, .inr (.inr ⟨hbad, hn, ?_⟩)⟩
      have hw : Sat (R.add x) (pts r (rdCells s true) :: Hs2) w := hw.drop.cons fun _ h => h.drop
      refine Sat.rd.2 ⟨s, ?_⟩
      exact (Reads.back hd hs hw).swap
  · have hbad : rd.bad = true := by simpa using h
    have hw : Sat R (pts br (brCell r) :: pts r (rdCells s rd.bad) :: Reads s (b8 rd.bs) :: Hs) w := hw
    refine leaveP hw fun w hw => ⟨rfl, .inl ⟨hbad, ?_⟩⟩
    rw [← hbad] at hw
    exact Sat.rd.2 ⟨s, hw.drop⟩

end Go.Proofs.YtaacfjdknlglhaaGreatDoor
/- Package field: a reader's New, Number, Whole. Condition: bounds on lengths. -/
namespace Go.Proofs.YtaacfjdknlglhaaGreatDoor
set_option linter.unusedVariables false
open Go Go.VC

variable {R : Cx} {Hs Rest : List HP} {w : World}

theorem CalW.mk {g : FuncId} {captured : Array Value} {args : List Value} {Q : Ending → World → Prop} (hc : cl g = true) (h : Calls Tryz.prog g (args ++ captured.toList).toArray w Q) : CalW Tryz.prog cl (.func (.func g) #[] captured) args w Q := by
  unfold CalW
  simp only [hc]
  exact h

theorem fnew_spec {s : Sl} {bs : List Int} (hs : Ro R s (b8 bs)) (hl : bs.length ≤ 1099511627776) (hw : Sat R Hs w) :
    Gets Tryz.prog 30 #[.slice s.a s.len s.cap] w fun v w' => ∃ r, v = .pointer (some ⟨r, 0, none⟩) ∧ Sat R (RdAt r ⟨bs, false⟩ :: Hs) w' := by
  apply call30
  refine (clone_spec hs hl hw).use ?_
  rintro _ w ⟨t, rfl, hw⟩
  refine ⟨t, rfl, ?_⟩
  have hw := Own.reads hw
  refine new_rule hw fun r w hw => ⟨r, rfl, Sat.rd.2 ⟨t, hw⟩⟩

theorem whole_spec {r : Nat} {rd : Rd} (hw : Sat R (RdAt r rd :: Hs) w) :
    Gets Tryz.prog 39 #[.pointer (some ⟨r, 0, none⟩)] w fun v w' => v = .bool (rdWhole rd) ∧ Sat R (RdAt r rd :: Hs) w' := by
  obtain ⟨s, hw⟩ := Sat.rd.1 hw
  have hsl : s.len = rd.bs.length := by
    obtain ⟨x, _, _, _, hx⟩ := Reads.lend hw.swap
    have := hx.len; simpa using this
  apply call39
  refine NilP.mk rfl ⟨rd.bad, At.own (eqS hw) (by exact ⟨rfl, trivial⟩), Br.nb (fun h => ?_) (fun h => ?_)⟩
  · refine NilP.mk rfl ?_
    refine ⟨s, At.own (eqS hw) (by exact ⟨rfl, trivial⟩), ?_, Sat.rd.2 ⟨s, hw⟩⟩
    unfold rdWhole
    rw [h, hsl]
    congr 1
    simp only [Bool.not_false, Bool.true_and]
    cases rd.bs with
    | nil => rfl
    | cons => simp; omega
  · refine ⟨?_, Sat.rd.2 ⟨s, hw⟩⟩
    unfold rdWhole
    rw [h]; rfl

theorem num1_spec {h : Heap} {l bm bo : Nat} {s : Sl} {bs : List Int} {most : Int} (hb : ∀ x ∈ bs, 0 ≤ x ∧ x < 256) (hsub : ∀ b o, h b = some o → R.m b = some o) (hr : SlR h s (b8 bs))
    (hw : Sat R (lp l s :: pts bo (.cells [.int .u64 0].toArray 70 (0, 0)) :: pts bm (.cells [.int .u64 most].toArray 70 (0, 0)) :: Hs) w) :
    GetsX Tryz.prog 82 #[.pointer (some ⟨l, 0, none⟩), .pointer (some ⟨bm, 0, none⟩), .pointer (some ⟨bo, 0, none⟩)] w
      (fun ch w' => ch = amissP ∧ (∀ n k, parse bs = some (n, false, k) → ¬ n ≤ most) ∧ ∃ s', Sat R (lp l s' :: pts bo (.cells [.int .u64 0].toArray 70 (0, 0)) :: pts bm (.cells [.int .u64 most].toArray 70 (0, 0)) :: Hs) w')
      (fun v w' => v = .tuple #[] ∧ ∃ n k s', parse bs = some (n, false, k) ∧ n ≤ most ∧ SlR h s' (b8 (bs.drop k)) ∧
        Sat R (lp l s' :: pts bo (.cells [.int .u64 n].toArray 70 (0, 0)) :: pts bm (.cells [.int .u64 most].toArray 70 (0, 0)) :: Hs) w') := by
  apply call82
  refine (fsize_spec hb hsub hr hw).use ?_ ?_
  rotate_left
  · rintro _ w ⟨hp, rfl, s', hw⟩
    refine .inr ⟨_, rfl, rfl, ?_, s', hw⟩
    intro n k h; rw [hp] at h; cases h
  rintro _ w ⟨n, neg, k, s', hp, rfl, hs', hw⟩
  refine .inl ⟨n, neg, rfl, Br.nb (fun h => ?_) (fun h => ?_)⟩
  · subst h
    have hw2 : Sat R (pts bm (.cells [.int .u64 most].toArray 70 (0, 0)) :: lp l s' :: pts bo (.cells [.int .u64 0].toArray 70 (0, 0)) :: Hs) w := hw.arr
    refine NilP.mk rfl ?_
    refine ⟨most, At.own (eqS hw) (by exact ⟨rfl, trivial⟩), must_c (fun h => .inl ⟨rfl, ?_⟩) (fun h => .inr ⟨_, rfl, rfl, ?_, s', hw⟩)⟩
    · have h := of_decide_eq_true h
      have hw : Sat R (pts bo (.cells [.int .u64 0].toArray 70 (0, 0)) :: lp l s' :: pts bm (.cells [.int .u64 most].toArray 70 (0, 0)) :: Hs) w := hw.swap
      refine store_rule hw (by kernel_rfl) rfl (by simp [Value.cells]) fun w hw => ?_
      exact ⟨rfl, n, k, s', hp, h, hs', hw.swap⟩
    · have h := of_decide_eq_false h
      intro n' k' hp'
      rw [hp] at hp'
      simp only [Option.some.injEq, Prod.mk.injEq, true_and] at hp'
      rw [← hp'.1]; exact h
  · subst h
    refine must_c (fun h => by cases h) (fun _ => .inr ⟨_, rfl, rfl, ?_, s', hw⟩)
    intro n' k' hp'
    rw [hp] at hp'
    simp at hp'

theorem rnum_spec {r : Nat} {rd : Rd} {most : Int} (hb : ∀ x ∈ rd.bs, 0 ≤ x ∧ x < 256) (hw : Sat R (RdAt r rd :: Hs) w) :
    Gets Tryz.prog 32 #[.pointer (some ⟨r, 0, none⟩), .int .u64 most] w fun v w' => v = .int .u64 (rdNum most rd).1 ∧ Sat R (RdAt r (rdNum most rd).2 :: Hs) w' := by
  apply call32
  refine new_rule hw fun bm w hw => new_rule hw fun bo w hw => ?_
  have hw : Sat R (pts bo (.cells [.int .u64 0].toArray 70 (0, 0)) :: pts bm (.cells [.int .u64 most].toArray 70 (0, 0)) :: RdAt r rd :: Hs) w := hw
  refine store_rule hw (by kernel_rfl) rfl (by simp [Value.cells]) fun w hw => ?_
  have hw := hw.re (pts bo (.cells [.int .u64 0].toArray 70 (0, 0)))
  have hw : Sat R (RdAt r rd :: pts bo (.cells [.int .u64 0].toArray 70 (0, 0)) :: pts bm (.cells [.int .u64 most].toArray 70 (0, 0)) :: Hs) w := hw.arr
  refine (reading_spec (α := Int × Nat) (f := fun y => rd.bs.drop y.2) (G := fun y => parse rd.bs = some (y.1, false, y.2) ∧ y.1 ≤ most) (N := ∀ n k, parse rd.bs = some (n, false, k) → ¬ n ≤ most)
    (Hs1 := fun y => pts bo (.cells [.int .u64 y.1].toArray 70 (0, 0)) :: pts bm (.cells [.int .u64 most].toArray 70 (0, 0)) :: Hs)
    (Hs2 := pts bo (.cells [.int .u64 0].toArray 70 (0, 0)) :: pts bm (.cells [.int .u64 most].toArray 70 (0, 0)) :: Hs) hw ?_).use ?_
  · intro _ x l s A B w hsub hs hw
    refine CalW.mk (by kernel_rfl) ?_
    have hw2 : Sat (R.add x) (lp l s :: pts bo (.cells [.int .u64 0].toArray 70 (0, 0)) :: pts bm (.cells [.int .u64 most].toArray 70 (0, 0)) :: A :: B :: Hs) w := hw.arr
    refine (num1_spec (h := x) hb hsub hs hw2).use ?_ ?_
    · rintro _ w ⟨rfl, n, k, s', hp, hn, hs', hw⟩
      exact .inl ⟨rfl, (n, k), s', ⟨hp, hn⟩, hs', hw.arr⟩
    · rintro _ w ⟨rfl, hn, s', hw⟩
      exact .inr ⟨rfl, hn, s', hw.arr⟩
  · rintro _ w ⟨rfl, h⟩
    refine ⟨rfl, ?_⟩
    rcases h with ⟨hbad, hw⟩ | ⟨hbad, ⟨n, k⟩, ⟨hp, hn⟩, hw⟩ | ⟨hbad, hno, hw⟩
    · have hw : Sat R (pts bo (.cells [.int .u64 0].toArray 70 (0, 0)) :: RdAt r rd :: pts bm (.cells [.int .u64 most].toArray 70 (0, 0)) :: Hs) w := hw.swap
      refine ⟨0, At.own (eqS hw) (by exact ⟨rfl, trivial⟩), ?_⟩
      unfold rdNum
      rw [if_pos hbad]
      exact ⟨rfl, hw.drop.cons fun _ h => h.drop⟩
    · have hw : Sat R (pts bo (.cells [.int .u64 n].toArray 70 (0, 0)) :: RdAt r ⟨rd.bs.drop k, false⟩ :: pts bm (.cells [.int .u64 most].toArray 70 (0, 0)) :: Hs) w := hw.swap
      refine ⟨n, At.own (eqS hw) (by exact ⟨rfl, trivial⟩), ?_⟩
      unfold rdNum
      rw [if_neg (by rw [hbad]; simp), hp]
      simp only
      rw [if_pos (by simpa using hn)]
      exact ⟨rfl, hw.drop.cons fun _ h => h.drop⟩
    · have hw : Sat R (pts bo (.cells [.int .u64 0].toArray 70 (0, 0)) :: RdAt r ⟨rd.bs, true⟩ :: pts bm (.cells [.int .u64 most].toArray 70 (0, 0)) :: Hs) w := hw.swap
      refine ⟨0, At.own (eqS hw) (by exact ⟨rfl, trivial⟩), ?_⟩
      have e : rdNum most rd = (0, ⟨rd.bs, true⟩) := by
        unfold rdNum
        rw [if_neg (by rw [hbad]; simp)]
        cases hp : parse rd.bs with
        | none => rfl
        | some p =>
          obtain ⟨n, neg, k⟩ := p
          simp only
          rw [if_neg]
          rintro ⟨rfl, h⟩
          exact hno n k hp h
      rw [e]
      exact ⟨rfl, hw.drop.cons fun _ h => h.drop⟩

theorem rdNum_bd {most : Int} {rd : Rd} (hb : ∀ x ∈ rd.bs, 0 ≤ x ∧ x < 256) : ∀ x ∈ (rdNum most rd).2.bs, 0 ≤ x ∧ x < 256 := by
  unfold rdNum
  split
  · exact hb
  · split
    · split
      · exact fun x hx => hb x (List.mem_of_mem_drop hx)
      · exact hb
    · exact hb
theorem rdNum_val {most : Int} {rd : Rd} (hb : ∀ x ∈ rd.bs, 0 ≤ x ∧ x < 256) (hm : 0 ≤ most) : 0 ≤ (rdNum most rd).1 ∧ (rdNum most rd).1 ≤ most := by
  unfold rdNum
  split
  · exact ⟨Int.le_refl _, hm⟩
  · split
    · rename_i n neg k hp
      split
      · rename_i h; exact ⟨(parse_bd hb hp).1, h.2⟩
      · exact ⟨Int.le_refl _, hm⟩
    · exact ⟨Int.le_refl _, hm⟩

end Go.Proofs.YtaacfjdknlglhaaGreatDoor
/- SL, part 12: 'append(nil, make([]T, n)...)'; a panic that does not come. No condition. -/
namespace Go.VC
set_option linter.unusedVariables false

variable {P : Program} {R : Cx} {Hs Rest : List HP} {w : World} {s : Sl}

theorem zeros_rule {t1 t2 ty T : TypeId} {bytes n : Nat} {k kn : IntKind} {K : Sl → World → Prop} (ht : P.underlying t1 = some (.slice T)) (hn : P.underlying t2 = some (.int kn)) (hi : elB P T bytes = true) (h0 : 0 < n) (h48 : n * bytes ≤ 281474976710656)
    (h63 : (n : Int) ≤ 9223372036854775807) (hw : Sat R Hs w) (h : ∀ t w', Sat R (Own ⟨t.a, 0, t.cap⟩ T [] :: Hs) w' → K t w') :
    ∃ w', ∃ t : Sl, (Builtin.append_ #[t1, t2] ty #[.slice none 0 0, .int k n]).run P w = .ok (.slice t.a t.len t.cap) w' ∧ K t w' := by
  obtain ⟨i, z, hi, hz, hsize, hbytes, hzc⟩ := elB_out hi
  have hr := Lib.run_append_nil_zeros (P := P) w t1 t2 ty T i z k kn ht hn hi hz n h0 (by omega) h63 (by rw [hbytes]; exact h48)
  refine ⟨_, ⟨some ⟨w.heap.size, 0, none⟩, n, grownCap w n 0 T⟩, hr, h _ _ ?_⟩
  have := Sat.alloc (Obj.cells (Builtin.zeroCells z.cells n ++ Builtin.zeroCells z.cells (grownCap w n 0 T - n)) T) (Sat.drew hw)
  have hg := grownCap_ge w n 0 T
  have e : Obj.cells (Builtin.zeroCells z.cells n ++ Builtin.zeroCells z.cells (grownCap w n 0 T - n)) T = .cells ([] ++ (Builtin.zeroCells z.cells n ++ Builtin.zeroCells z.cells (grownCap w n 0 T - n)).toList).toArray T (0, 0) := by
    congr 1
  rw [e] at this ⊢
  have h3 := Own.of_pts this
  have e2 : (⟨some ⟨w.drew.heap.size, 0, none⟩, ([] : List Value).length, ([] ++ (Builtin.zeroCells z.cells n ++ Builtin.zeroCells z.cells (grownCap w n 0 T - n)).toList).length⟩ : Sl) = ⟨some ⟨w.heap.size, 0, none⟩, 0, grownCap w n 0 T⟩ := by
    simp [Builtin.zeroCells, hzc]
    omega
  rw [e2] at h3
  exact h3

theorem GetsX.gets {f : FuncId} {args : Array Value} {K : Value → World → Prop} (h : GetsX P f args w (fun _ _ => False) K) : Gets P f args w K :=
  Calls.mono h fun e w' he => by
    rcases he with ⟨v, rfl, hq⟩ | ⟨_, _, hf⟩
    · exact ⟨v, rfl, hq⟩
    · exact hf.elim

end Go.VC
/- SL, part 13: appends of integers; new arrays as slices of one's own. Condition: bounds on lengths. -/
namespace Go.VC
set_option linter.unusedVariables false

variable {P : Program} {R : Cx} {Hs Rest : List HP} {w : World} {s t : Sl} {T T2 : TypeId}

theorem oneAll_k (k : IntKind) (xs : List Int) : oneAll (xs.map (Value.int k)) = true := by
  induction xs with
  | nil => rfl
  | cons x xs ih => simp only [List.map_cons, oneAll, List.all_cons, Bool.and_eq_true]; exact ⟨rfl, ih⟩
/-- A new array, as a slice. -/
theorem own_lit {b n : Nat} {l : List Value} {fr : Nat × Nat} (hw : Sat R (pts b (.cells l.toArray T fr) :: Hs) w) (hn : n = l.length := by rfl) (hf : okFr l.length fr := by first | assumption | exact Or.inl rfl) : Sat R (Own ⟨some ⟨b, 0, none⟩, n, n⟩ T l :: Hs) w := by
  subst hn
  have := Own.of_pts (xs := l) (rest := []) (by simpa using hw) (by simpa using hf)
  simpa using this
/-- Integers that are only read, behind integers of one's own. -/
theorem appendRI {t1 t2 ty e' : TypeId} {bytes n : Nat} {k : IntKind} (E : El P t1 t2 T bytes) {xs ys : List Int} {K : Sl → World → Prop} (h2 : P.underlying t2 = some (.slice e'))
    (hw : Sat R (Own s T (xs.map (Value.int k)) :: Hs) w) (hy : Ro R t (ys.map (Value.int k))) (hn : xs.length + ys.length ≤ n) (hb : 2 * n * bytes ≤ 281474976710656) (hb' : n ≤ 9223372036854775807)
    (kk : ∀ s' w', Sat R (Own s' T ((xs ++ ys).map (Value.int k)) :: Hs) w' → K s' w') :
    ∃ w', ∃ t' : Sl, (Builtin.append_ #[t1, t2] ty #[.slice s.a s.len s.cap, .slice t.a t.len t.cap]).run P w = .ok (.slice t'.a t'.len t'.cap) w' ∧ K t' w' := by
  have hsrc : Src P 1 t2 (.slice t.a t.len t.cap) ys.length (ys.map (Value.int k)) w := by
    have := srcRo h2 hw hy (oneAll_k _ _)
    simpa using this
  refine append_rule E (s := s) hw hsrc (oneAll_k _ _) ?_ (by rw [List.length_map]; omega) fun s2 w hw => kk s2 w (by simpa using hw)
  rw [List.length_map]
  have : 2 * (xs.length + ys.length) * bytes ≤ 2 * n * bytes := Nat.mul_le_mul_right _ (by omega)
  omega
/-- .. of one's own, kept. -/
theorem appendOO {t1 t2 ty e' : TypeId} {bytes n : Nat} {k : IntKind} (E : El P t1 t2 T bytes) {xs ys : List Int} {K : Sl → World → Prop} (h2 : P.underlying t2 = some (.slice e'))
    (hw : Sat R (Own s T (xs.map (Value.int k)) :: Own t T2 (ys.map (Value.int k)) :: Hs) w) (hn : xs.length + ys.length ≤ n) (hb : 2 * n * bytes ≤ 281474976710656) (hb' : n ≤ 9223372036854775807)
    (kk : ∀ s' w', Sat R (Own s' T ((xs ++ ys).map (Value.int k)) :: Own t T2 (ys.map (Value.int k)) :: Hs) w' → K s' w') :
    ∃ w', ∃ t' : Sl, (Builtin.append_ #[t1, t2] ty #[.slice s.a s.len s.cap, .slice t.a t.len t.cap]).run P w = .ok (.slice t'.a t'.len t'.cap) w' ∧ K t' w' := by
  obtain ⟨R', hr, _, hw, back⟩ := Own.lend hw.swap (by rw [List.length_map]; omega)
  exact appendRI E h2 hw hr hn hb hb' fun s' w' hw => kk s' w' (back hw).swap
/-- Integers that are only read: an index. -/
theorem Ro.ix {k : IntKind} {xs : List Int} {S : World → Prop} {i : Int} (hr : Ro R s (xs.map (Value.int k))) (hS : ∀ w, S w → Sat R Hs w) (j : Nat) (hi : i = j) (hj : j < xs.length) {F : Int → Prop} (h : F xs[j]) :
    Rng i s.len (NilP s.a fun a => ∃ t : Int, (At S (a.add i.toNat) [.int k t]) ∧ F t) := by
  subst hi
  exact hr.idxK hS hj h
theorem SlR.ix {k : IntKind} {xs : List Int} {S : World → Prop} {i : Int} (hr : SlR R.m s (xs.map (Value.int k))) (hS : ∀ w, S w → Sat R Hs w) (j : Nat) (hi : i = j) (hj : j < xs.length) {F : Int → Prop} (h : F xs[j]) :
    Rng i s.len (NilP s.a fun a => ∃ t : Int, (At S (a.add i.toNat) [.int k t]) ∧ F t) := by
  subst hi
  exact hr.idxK hS hj h

end Go.VC
/- SL, part 14: memory of one's own, made into memory that is only read, for good. No condition. -/
namespace Go.VC
set_option linter.unusedVariables false

variable {P : Program} {R R' R'' : Cx} {Hs Rest : List HP} {w : World} {s : Sl} {T : TypeId}

/-- R' has all the memory that R has, to be read. -/
structure Cx.Ext (R R' : Cx) : Prop where
  m : ∀ b o, R.m b = some o → R'.m b = some o
  like : R'.like R
theorem Cx.Ext.refl : R.Ext R := ⟨fun _ _ h => h, rfl, rfl, rfl⟩
theorem Cx.Ext.trans (h : R.Ext R') (h' : R'.Ext R'') : R.Ext R'' :=
  ⟨fun b o hb => h'.m b o (h.m b o hb), h.like.1.trans h'.like.1, h.like.2.1.trans h'.like.2.1, h.like.2.2.trans h'.like.2.2⟩
theorem Cx.Ext.add {h : Heap} : R.Ext (R.add h) := ⟨fun b o hb => by simp only [Cx.add, Heap.add, hb], rfl, rfl, rfl⟩
theorem Cx.Ext.back (h : R.Ext R') (hw : Sat R' Hs w) : Sat R Hs w := Sat.ro_of h.m h.like hw
theorem Cx.Ext.ro {xs : List Value} (h : R.Ext R') (a : Ro R s xs) : Ro R' s xs :=
  ⟨a.len, a.bound, fun hx => let ⟨b, off, l, T, fr, h1, h2, h3⟩ := a.mem hx; ⟨b, off, l, T, fr, h1, h.m _ _ h2, h3⟩⟩
theorem Cx.Ext.roN {n : Nat} {xs : List (List Value)} (h : R.Ext R') (a : RoN n R s xs) : RoN n R' s xs :=
  ⟨a.wid, a.len, fun hx => let ⟨b, off, l, T, fr, h1, h2, h3⟩ := a.mem hx; ⟨b, off, l, T, fr, h1, h.m _ _ h2, h3⟩⟩
theorem Cx.Ext.slR {xs : List Value} (h : R.Ext R') (a : SlR R.m s xs) : SlR R'.m s xs :=
  ⟨a.len, a.cap, fun hx => let ⟨b, off, l, T, fr, h1, h2, h3⟩ := a.mem hx; ⟨b, off, l, T, fr, h1, h.m _ _ h2, h3⟩⟩
/-- For good. -/
theorem Reads.leak {xs : List Value} (h : Sat R (Reads s xs :: Hs) w) : ∃ R' : Cx, R.Ext R' ∧ SlR R'.m s xs ∧ Sat R' Hs w := by
  obtain ⟨x, _, h1, h2, _⟩ := Reads.lend h
  exact ⟨_, .add, h1, h2⟩
theorem Own.leak {xs : List Value} (h : Sat R (Own s T xs :: Hs) w) : ∃ R' : Cx, R.Ext R' ∧ SlR R'.m s xs ∧ Sat R' Hs w := Reads.leak (Own.reads h)
theorem OwnN.leak {n : Nat} {rows : List (List Value)} (h : Sat R (OwnN n s T rows :: Hs) w) : ∃ R' : Cx, R.Ext R' ∧ RoN n R' s rows ∧ Sat R' Hs w := by
  obtain ⟨R', h1, ⟨x, rfl⟩, h2, _⟩ := OwnN.lend h
  exact ⟨_, .add, h1, h2⟩
theorem pts.leak {b : Nat} {o : Obj} (h : Sat R (pts b o :: Hs) w) : ∃ R' : Cx, R.Ext R' ∧ R'.m b = some o ∧ Sat R' Hs w := by
  obtain ⟨h1, h2⟩ := Sat.lend.1 h
  exact ⟨_, .add, Cx.lent h1, h2⟩

end Go.VC
/- The formulas of functions of this seat's translation, printed by a program of mine off the translation; each is proved equal to 'fnF' of the function's body, so it is enough for the call. No condition. -/
namespace Go.Proofs.YtaacfjdknlglhaaGreatDoor
open Go Go.VC
set_option linter.unusedVariables false
/-- slices.Clone[[]int,int]. -/
def B59 (s0 : Sl) (K : Value → World → Prop) (w : World) : Prop :=
  Br s0.a.isNone
   (K (.slice none 0 0) w)
   (New (.cells #[] 3 (0, 0)) (fun b_t5 w_1 =>
    ∃ w_2 : World, ∃ t7 : Sl, ((Builtin.append_ #[33, 33] 33 #[.slice ((some ⟨b_t5, 0, none⟩)) 0 0, .slice s0.a s0.len s0.cap]).run Tryz.prog w_1 = .ok (.slice t7.a t7.len t7.cap) w_2) ∧
    K (.slice t7.a t7.len t7.cap) w_2) w)

def sk59 : Sk := .leaf
theorem ok59 : fnOk Tryz.prog Tryz.f59.ntmps Tryz.f59 sk59 = true := by kernel_rfl
theorem eq59 (s0 : Sl) (K : Value → World → Prop) (w : World) : fnF Tryz.prog cl Tryz.f59 sk59 [.slice s0.a s0.len s0.cap] K w = B59 s0 K w := by kernel_rfl
theorem call59 (s0 : Sl) (K : Value → World → Prop) (w : World) (h : B59 s0 K w) : Gets Tryz.prog 59 #[.slice s0.a s0.len s0.cap] w K :=
  calls_of (sk := sk59) cl_ok mixed Tryz.func59 ok59 (args := [.slice s0.a s0.len s0.cap]) (Nat.le_of_ble_eq_true (by kernel_rfl)) (by rw [eq59]; exact h)

/-- slices.ContainsFunc[[]int,int]. -/
def B86 (s0 : Sl) (f1 : Value) (K : Value → World → Prop) (w : World) : Prop :=
  Calls Tryz.prog 113 #[.slice s0.a s0.len s0.cap, f1] w fun e w_1 =>
  ∃ t7 : Int, (e = .returned (.int .i64 t7)) ∧
  K (.bool (decide (t7 ≥ 0))) w_1

def sk86 : Sk := .leaf
theorem ok86 : fnOk Tryz.prog Tryz.f86.ntmps Tryz.f86 sk86 = true := by kernel_rfl
theorem eq86 (s0 : Sl) (f1 : Value) (K : Value → World → Prop) (w : World) : fnF Tryz.prog cl Tryz.f86 sk86 [.slice s0.a s0.len s0.cap, f1] K w = B86 s0 f1 K w := by kernel_rfl
theorem call86 (s0 : Sl) (f1 : Value) (K : Value → World → Prop) (w : World) (h : B86 s0 f1 K w) : Gets Tryz.prog 86 #[.slice s0.a s0.len s0.cap, f1] w K :=
  calls_of (sk := sk86) cl_ok mixed Tryz.func86 ok86 (args := [.slice s0.a s0.len s0.cap, f1]) (Nat.le_of_ble_eq_true (by kernel_rfl)) (by rw [eq86]; exact h)

/-- slices.IndexFunc[[]int,int]. -/
def B113 (s0 : Sl) (f1 : Value) (K : Value → World → Prop) (w : World) : Prop :=
  ∃ (I : Int → World → Prop) (μ : Int → World → Nat), (I 0 w) ∧ ∀ (z : Env) (t8 : Int) (w_1 : World), I t8 w_1 →
  Br (decide (t8 < (↑s0.len : Int)))
   (Rng t8 s0.len (NilP s0.a fun a_t14 =>
    ∃ t15 : Int, (At (fun w' => w' = w_1) (Addr.add a_t14 t8.toNat) [.int .i64 t15]) ∧
    CalW Tryz.prog cl f1 [.int .i64 t15] w_1 fun e w_2 =>
    ∃ t16 : Bool, (e = .returned (.bool t16)) ∧
    Br t16
     (K (.int .i64 t8) w_2)
     ((I (IntKind.i64.wrap (t8 + 1)) w_2) ∧ μ (IntKind.i64.wrap (t8 + 1)) w_2 < μ t8 w_1)))
   (K (.int .i64 ((-1))) w_1)

def sk113 : Sk := (.seq .leaf (.seq (.seq .leaf (.block (.loop [8] [(.int .i64)] [4, 5, 8, 9, 10, 11, 12, 13, 14, 15, 16, 17, 18] .leaf))) .leaf))
theorem ok113 : fnOk Tryz.prog Tryz.f113.ntmps Tryz.f113 sk113 = true := by kernel_rfl
theorem eq113 (s0 : Sl) (f1 : Value) (K : Value → World → Prop) (w : World) : fnF Tryz.prog cl Tryz.f113 sk113 [.slice s0.a s0.len s0.cap, f1] K w = B113 s0 f1 K w := by kernel_rfl
theorem call113 (s0 : Sl) (f1 : Value) (K : Value → World → Prop) (w : World) (h : B113 s0 f1 K w) : Gets Tryz.prog 113 #[.slice s0.a s0.len s0.cap, f1] w K :=
  calls_of (sk := sk113) cl_ok mixed Tryz.func113 ok113 (args := [.slice s0.a s0.len s0.cap, f1]) (Nat.le_of_ble_eq_true (by kernel_rfl)) (by rw [eq113]; exact h)

/-- slices.DeleteFunc[[]int,int]. -/
def B75 (s0 : Sl) (del1 : Value) (K : Value → World → Prop) (w : World) : Prop :=
  Calls Tryz.prog 113 #[.slice s0.a s0.len s0.cap, del1] w fun e w_1 =>
  ∃ t10 : Int, (e = .returned (.int .i64 t10)) ∧
  Br (t10 == -1)
   (K (.slice s0.a s0.len s0.cap) w_1)
   (∃ (I : Int → Int → World → Prop) (μ : Int → Int → World → Nat), (I t10 (IntKind.i64.wrap (t10 + 1)) w_1) ∧ ∀ (z : Env) (i5 : Int) (j6 : Int) (w_2 : World), I i5 j6 w_2 →
    Br (decide (j6 < (↑s0.len : Int)))
     (Rng j6 s0.len (NilP s0.a fun a_t24 =>
      ∃ t25 : Int, (At (fun w' => w' = w_2) (Addr.add a_t24 j6.toNat) [.int .i64 t25]) ∧
      CalW Tryz.prog cl del1 [.int .i64 t25] w_2 fun e_1 w_3 =>
      ∃ t28 : Bool, (e_1 = .returned (.bool t28)) ∧
      Br (!t28)
       (Rng i5 s0.len (NilP s0.a fun a_t33 =>
        ∃ w_4 : World, ((Instr.storeAt 3 (.pointer ((some (Addr.add a_t33 i5.toNat)))) (.int .i64 t25)).run Tryz.prog w_3 = .ok () w_4) ∧
        (I (IntKind.i64.wrap (i5 + 1)) (IntKind.i64.wrap (j6 + 1)) w_4) ∧ μ (IntKind.i64.wrap (i5 + 1)) (IntKind.i64.wrap (j6 + 1)) w_4 < μ i5 j6 w_2))
       ((I i5 (IntKind.i64.wrap (j6 + 1)) w_3) ∧ μ i5 (IntKind.i64.wrap (j6 + 1)) w_3 < μ i5 j6 w_2)))
     (((0 : Int) ≤ i5) ∧
      ((i5 : Int) ≤ (↑s0.len : Int)) ∧
      ∃ w_5 : World, ((Builtin.clear_ #[33] 0 #[.slice (cutA s0.a i5.toNat s0.cap 1) (s0.len - i5.toNat) (s0.cap - i5.toNat)]).run Tryz.prog w_2 = .ok (.tuple #[]) w_5) ∧
      ((0 : Int) ≤ i5) ∧
      ((i5 : Int) ≤ (↑s0.cap : Int)) ∧
      K (.slice s0.a i5.toNat s0.cap) w_5))

def sk75 : Sk := (.seq .leaf (.seq .leaf (.seq .leaf (.seq (.seq .leaf (.block (.loop [5, 6] [(.int .i64), (.int .i64)] [5, 6, 7, 16, 17, 18, 19, 20, 21, 22, 23, 24, 25, 26, 27, 28, 29, 30, 31, 32, 33, 34, 35] .leaf))) .leaf))))
theorem ok75 : fnOk Tryz.prog Tryz.f75.ntmps Tryz.f75 sk75 = true := by kernel_rfl
theorem eq75 (s0 : Sl) (del1 : Value) (K : Value → World → Prop) (w : World) : fnF Tryz.prog cl Tryz.f75 sk75 [.slice s0.a s0.len s0.cap, del1] K w = B75 s0 del1 K w := by kernel_rfl
theorem call75 (s0 : Sl) (del1 : Value) (K : Value → World → Prop) (w : World) (h : B75 s0 del1 K w) : Gets Tryz.prog 75 #[.slice s0.a s0.len s0.cap, del1] w K :=
  calls_of (sk := sk75) cl_ok mixed Tryz.func75 ok75 (args := [.slice s0.a s0.len s0.cap, del1]) (Nat.le_of_ble_eq_true (by kernel_rfl)) (by rw [eq75]; exact h)

/-- slices.Insert[[]int,int]. -/
def B107 (s0 : Sl) (i1 : Int) (v2 : Sl) (K : Value → World → Prop) (w : World) : Prop :=
  ((0 : Int) ≤ i1) ∧
  ((i1 : Int) ≤ (↑s0.len : Int)) ∧
  Br ((↑v2.len : Int) == 0)
   (K (.slice s0.a s0.len s0.cap) w)
   (Br (i1 == (↑s0.len : Int))
     (∃ w_1 : World, ∃ t25 : Sl, ((Builtin.append_ #[33, 33] 33 #[.slice s0.a s0.len s0.cap, .slice v2.a v2.len v2.cap]).run Tryz.prog w = .ok (.slice t25.a t25.len t25.cap) w_1) ∧
      K (.slice t25.a t25.len t25.cap) w_1)
     (Br (decide (IntKind.i64.wrap ((↑s0.len : Int) + (↑v2.len : Int)) > (↑s0.cap : Int)))
       (((0 : Int) ≤ i1) ∧
        ((i1 : Int) ≤ (↑s0.cap : Int)) ∧
        ∃ w_2 : World, ∃ t40 : Sl, ((Builtin.append_ #[33, 3] 33 #[.slice s0.a i1.toNat s0.cap, .int .i64 (IntKind.i64.wrap (IntKind.i64.wrap ((↑s0.len : Int) + (↑v2.len : Int)) - i1))]).run Tryz.prog w = .ok (.slice t40.a t40.len t40.cap) w_2) ∧
        ((0 : Int) ≤ i1) ∧
        ((i1 : Int) ≤ (↑t40.len : Int)) ∧
        ∃ w_3 : World, ∃ t45 : Int, ((Builtin.copy_ #[33, 33] 3 #[.slice (cutA t40.a i1.toNat t40.cap 1) (t40.len - i1.toNat) (t40.cap - i1.toNat), .slice v2.a v2.len v2.cap]).run Tryz.prog w_2 = .ok (.int .i64 t45) w_3) ∧
        Drw w_3 fun S w_4 =>
        ((0 : Int) ≤ IntKind.i64.wrap (i1 + (↑v2.len : Int))) ∧
        ((IntKind.i64.wrap (i1 + (↑v2.len : Int)) : Int) ≤ (↑t40.len : Int)) ∧
        ((0 : Int) ≤ i1) ∧
        ((i1 : Int) ≤ (↑s0.len : Int)) ∧
        ∃ w_5 : World, ∃ t54 : Int, ((Builtin.copy_ #[33, 33] 3 #[.slice (cutA t40.a (IntKind.i64.wrap (i1 + (↑v2.len : Int))).toNat t40.cap 1) (t40.len - (IntKind.i64.wrap (i1 + (↑v2.len : Int))).toNat) (t40.cap - (IntKind.i64.wrap (i1 + (↑v2.len : Int))).toNat), .slice (cutA s0.a i1.toNat s0.cap 1) (s0.len - i1.toNat) (s0.cap - i1.toNat)]).run Tryz.prog w_4 = .ok (.int .i64 t54) w_5) ∧
        K (.slice t40.a t40.len t40.cap) w_5)
       (((0 : Int) ≤ IntKind.i64.wrap ((↑s0.len : Int) + (↑v2.len : Int))) ∧
        ((IntKind.i64.wrap ((↑s0.len : Int) + (↑v2.len : Int)) : Int) ≤ (↑s0.cap : Int)) ∧
        ((0 : Int) ≤ IntKind.i64.wrap (i1 + (↑v2.len : Int))) ∧
        ((IntKind.i64.wrap (i1 + (↑v2.len : Int)) : Int) ≤ (↑(IntKind.i64.wrap ((↑s0.len : Int) + (↑v2.len : Int))).toNat : Int)) ∧
        Ext Tryz.prog 126 #[.slice v2.a v2.len v2.cap, .slice (cutA s0.a (IntKind.i64.wrap (i1 + (↑v2.len : Int))).toNat s0.cap 1) ((IntKind.i64.wrap ((↑s0.len : Int) + (↑v2.len : Int))).toNat - (IntKind.i64.wrap (i1 + (↑v2.len : Int))).toNat) (s0.cap - (IntKind.i64.wrap (i1 + (↑v2.len : Int))).toNat)] w fun e w_6 =>
        ∃ t67 : Bool, (e = .returned (.bool t67)) ∧
        Br (!t67)
         (Drw w_6 fun S_1 w_7 =>
          ((0 : Int) ≤ IntKind.i64.wrap (i1 + (↑v2.len : Int))) ∧
          ((IntKind.i64.wrap (i1 + (↑v2.len : Int)) : Int) ≤ (↑(IntKind.i64.wrap ((↑s0.len : Int) + (↑v2.len : Int))).toNat : Int)) ∧
          ((0 : Int) ≤ i1) ∧
          ((i1 : Int) ≤ (↑(IntKind.i64.wrap ((↑s0.len : Int) + (↑v2.len : Int))).toNat : Int)) ∧
          ∃ w_8 : World, ∃ t77 : Int, ((Builtin.copy_ #[33, 33] 3 #[.slice (cutA s0.a (IntKind.i64.wrap (i1 + (↑v2.len : Int))).toNat s0.cap 1) ((IntKind.i64.wrap ((↑s0.len : Int) + (↑v2.len : Int))).toNat - (IntKind.i64.wrap (i1 + (↑v2.len : Int))).toNat) (s0.cap - (IntKind.i64.wrap (i1 + (↑v2.len : Int))).toNat), .slice (cutA s0.a i1.toNat s0.cap 1) ((IntKind.i64.wrap ((↑s0.len : Int) + (↑v2.len : Int))).toNat - i1.toNat) (s0.cap - i1.toNat)]).run Tryz.prog w_7 = .ok (.int .i64 t77) w_8) ∧
          ((0 : Int) ≤ i1) ∧
          ((i1 : Int) ≤ (↑(IntKind.i64.wrap ((↑s0.len : Int) + (↑v2.len : Int))).toNat : Int)) ∧
          ∃ w_9 : World, ∃ t82 : Int, ((Builtin.copy_ #[33, 33] 3 #[.slice (cutA s0.a i1.toNat s0.cap 1) ((IntKind.i64.wrap ((↑s0.len : Int) + (↑v2.len : Int))).toNat - i1.toNat) (s0.cap - i1.toNat), .slice v2.a v2.len v2.cap]).run Tryz.prog w_8 = .ok (.int .i64 t82) w_9) ∧
          K (.slice s0.a ((IntKind.i64.wrap ((↑s0.len : Int) + (↑v2.len : Int))).toNat) s0.cap) w_9)
         (((0 : Int) ≤ (↑s0.len : Int)) ∧
          (((↑s0.len : Int) : Int) ≤ (↑(IntKind.i64.wrap ((↑s0.len : Int) + (↑v2.len : Int))).toNat : Int)) ∧
          ∃ w_10 : World, ∃ t88 : Int, ((Builtin.copy_ #[33, 33] 3 #[.slice (cutA s0.a (↑s0.len : Int).toNat s0.cap 1) ((IntKind.i64.wrap ((↑s0.len : Int) + (↑v2.len : Int))).toNat - (↑s0.len : Int).toNat) (s0.cap - (↑s0.len : Int).toNat), .slice v2.a v2.len v2.cap]).run Tryz.prog w_6 = .ok (.int .i64 t88) w_10) ∧
          ((0 : Int) ≤ i1) ∧
          ((i1 : Int) ≤ (↑(IntKind.i64.wrap ((↑s0.len : Int) + (↑v2.len : Int))).toNat : Int)) ∧
          Calls Tryz.prog 127 #[.slice (cutA s0.a i1.toNat s0.cap 1) ((IntKind.i64.wrap ((↑s0.len : Int) + (↑v2.len : Int))).toNat - i1.toNat) (s0.cap - i1.toNat), .int .i64 ((↑v2.len : Int))] w_10 fun e_1 w_11 =>
          (e_1 = .returned (.tuple #[])) ∧
          K (.slice s0.a ((IntKind.i64.wrap ((↑s0.len : Int) + (↑v2.len : Int))).toNat) s0.cap) w_11))))

def sk107 : Sk := .leaf
theorem ok107 : fnOk Tryz.prog Tryz.f107.ntmps Tryz.f107 sk107 = true := by kernel_rfl
theorem eq107 (s0 : Sl) (i1 : Int) (v2 : Sl) (K : Value → World → Prop) (w : World) : fnF Tryz.prog cl Tryz.f107 sk107 [.slice s0.a s0.len s0.cap, .int .i64 i1, .slice v2.a v2.len v2.cap] K w = B107 s0 i1 v2 K w := by kernel_rfl
theorem call107 (s0 : Sl) (i1 : Int) (v2 : Sl) (K : Value → World → Prop) (w : World) (h : B107 s0 i1 v2 K w) : Gets Tryz.prog 107 #[.slice s0.a s0.len s0.cap, .int .i64 i1, .slice v2.a v2.len v2.cap] w K :=
  calls_of (sk := sk107) cl_ok mixed Tryz.func107 ok107 (args := [.slice s0.a s0.len s0.cap, .int .i64 i1, .slice v2.a v2.len v2.cap]) (Nat.le_of_ble_eq_true (by kernel_rfl)) (by rw [eq107]; exact h)

/-- slices.BinarySearch[[]int,int]. -/
def B106 (x0 : Sl) (target1 : Int) (K : Value → World → Prop) (w : World) : Prop :=
  ∃ (I : Int → Int → World → Prop) (μ : Int → Int → World → Nat), (I 0 ((↑x0.len : Int)) w) ∧ ∀ (z : Env) (i7 : Int) (j8 : Int) (w_1 : World), I i7 j8 w_1 →
  Br (decide (i7 < j8))
   (Rng (IntKind.i64.wrap (shrI IntKind.u64 (IntKind.u64.wrap (IntKind.i64.wrap (i7 + j8))) 1)) x0.len (NilP x0.a fun a_t24 =>
    ∃ t25 : Int, (At (fun w' => w' = w_1) (Addr.add a_t24 ((IntKind.i64.wrap (shrI IntKind.u64 (IntKind.u64.wrap (IntKind.i64.wrap (i7 + j8))) 1)).toNat)) [.int .i64 t25]) ∧
    Calls Tryz.prog 124 #[.int .i64 t25, .int .i64 target1] w_1 fun e w_2 =>
    ∃ t27 : Bool, (e = .returned (.bool t27)) ∧
    Br t27
     ((I (IntKind.i64.wrap (IntKind.i64.wrap (shrI IntKind.u64 (IntKind.u64.wrap (IntKind.i64.wrap (i7 + j8))) 1) + 1)) j8 w_2) ∧ μ (IntKind.i64.wrap (IntKind.i64.wrap (shrI IntKind.u64 (IntKind.u64.wrap (IntKind.i64.wrap (i7 + j8))) 1) + 1)) j8 w_2 < μ i7 j8 w_1)
     ((I i7 (IntKind.i64.wrap (shrI IntKind.u64 (IntKind.u64.wrap (IntKind.i64.wrap (i7 + j8))) 1)) w_2) ∧ μ i7 (IntKind.i64.wrap (shrI IntKind.u64 (IntKind.u64.wrap (IntKind.i64.wrap (i7 + j8))) 1)) w_2 < μ i7 j8 w_1)))
   (Br (decide (i7 < (↑x0.len : Int)))
     (Rng i7 x0.len (NilP x0.a fun a_t38 =>
      ∃ t39 : Int, (At (fun w' => w' = w_1) (Addr.add a_t38 i7.toNat) [.int .i64 t39]) ∧
      Br (t39 == target1)
       (K (.tuple #[.int .i64 i7, .bool true]) w_1)
       (Rng i7 x0.len (NilP x0.a fun a_t45 =>
        ∃ t46 : Int, (At (fun w' => w' = w_1) (Addr.add a_t45 i7.toNat) [.int .i64 t46]) ∧
        Calls Tryz.prog 125 #[.int .i64 t46] w_1 fun e_1 w_3 =>
        ∃ t47 : Bool, (e_1 = .returned (.bool t47)) ∧
        Br t47
         (Calls Tryz.prog 125 #[.int .i64 target1] w_3 fun e_2 w_4 =>
          ∃ t50 : Bool, (e_2 = .returned (.bool t50)) ∧
          K (.tuple #[.int .i64 i7, .bool t50]) w_4)
         (K (.tuple #[.int .i64 i7, .bool false]) w_3)))))
     (K (.tuple #[.int .i64 i7, .bool false]) w_1))

def sk106 : Sk := (.seq .leaf (.seq .leaf (.seq .leaf (.seq (.block (.loop [7, 8] [(.int .i64), (.int .i64)] [7, 8, 9, 13, 14, 15, 16, 17, 18, 19, 20, 21, 22, 23, 24, 25, 26, 27, 28, 29, 30] .leaf)) .leaf))))
theorem ok106 : fnOk Tryz.prog Tryz.f106.ntmps Tryz.f106 sk106 = true := by kernel_rfl
theorem eq106 (x0 : Sl) (target1 : Int) (K : Value → World → Prop) (w : World) : fnF Tryz.prog cl Tryz.f106 sk106 [.slice x0.a x0.len x0.cap, .int .i64 target1] K w = B106 x0 target1 K w := by kernel_rfl
theorem call106 (x0 : Sl) (target1 : Int) (K : Value → World → Prop) (w : World) (h : B106 x0 target1 K w) : Gets Tryz.prog 106 #[.slice x0.a x0.len x0.cap, .int .i64 target1] w K :=
  calls_of (sk := sk106) cl_ok mixed Tryz.func106 ok106 (args := [.slice x0.a x0.len x0.cap, .int .i64 target1]) (Nat.le_of_ble_eq_true (by kernel_rfl)) (by rw [eq106]; exact h)

/-- cmp.Less[int]. -/
def B124 (x0 : Int) (y1 : Int) (K : Value → World → Prop) (w : World) : Prop :=
  Calls Tryz.prog 140 #[.int .i64 x0] w fun e w_1 =>
  ∃ t6 : Bool, (e = .returned (.bool t6)) ∧
  Br t6
   (Calls Tryz.prog 140 #[.int .i64 y1] w_1 fun e_1 w_2 =>
    ∃ t9 : Bool, (e_1 = .returned (.bool t9)) ∧
    Br (!t9)
     (K (.bool true) w_2)
     (K (.bool (decide (x0 < y1))) w_2))
   (K (.bool (decide (x0 < y1))) w_1)

def sk124 : Sk := .leaf
theorem ok124 : fnOk Tryz.prog Tryz.f124.ntmps Tryz.f124 sk124 = true := by kernel_rfl
theorem eq124 (x0 : Int) (y1 : Int) (K : Value → World → Prop) (w : World) : fnF Tryz.prog cl Tryz.f124 sk124 [.int .i64 x0, .int .i64 y1] K w = B124 x0 y1 K w := by kernel_rfl
theorem call124 (x0 : Int) (y1 : Int) (K : Value → World → Prop) (w : World) (h : B124 x0 y1 K w) : Gets Tryz.prog 124 #[.int .i64 x0, .int .i64 y1] w K :=
  calls_of (sk := sk124) cl_ok mixed Tryz.func124 ok124 (args := [.int .i64 x0, .int .i64 y1]) (Nat.le_of_ble_eq_true (by kernel_rfl)) (by rw [eq124]; exact h)

/-- slices.isNaN[int]. -/
def B125 (x0 : Int) (K : Value → World → Prop) (w : World) : Prop :=
  K (.bool (x0 != x0)) w

def sk125 : Sk := .leaf
theorem ok125 : fnOk Tryz.prog Tryz.f125.ntmps Tryz.f125 sk125 = true := by kernel_rfl
theorem eq125 (x0 : Int) (K : Value → World → Prop) (w : World) : fnF Tryz.prog cl Tryz.f125 sk125 [.int .i64 x0] K w = B125 x0 K w := by kernel_rfl
theorem call125 (x0 : Int) (K : Value → World → Prop) (w : World) (h : B125 x0 K w) : Gets Tryz.prog 125 #[.int .i64 x0] w K :=
  calls_of (sk := sk125) cl_ok mixed Tryz.func125 ok125 (args := [.int .i64 x0]) (Nat.le_of_ble_eq_true (by kernel_rfl)) (by rw [eq125]; exact h)

/-- cmp.isNaN[int]. -/
def B140 (x0 : Int) (K : Value → World → Prop) (w : World) : Prop :=
  K (.bool (x0 != x0)) w

def sk140 : Sk := .leaf
theorem ok140 : fnOk Tryz.prog Tryz.f140.ntmps Tryz.f140 sk140 = true := by kernel_rfl
theorem eq140 (x0 : Int) (K : Value → World → Prop) (w : World) : fnF Tryz.prog cl Tryz.f140 sk140 [.int .i64 x0] K w = B140 x0 K w := by kernel_rfl
theorem call140 (x0 : Int) (K : Value → World → Prop) (w : World) (h : B140 x0 K w) : Gets Tryz.prog 140 #[.int .i64 x0] w K :=
  calls_of (sk := sk140) cl_ok mixed Tryz.func140 ok140 (args := [.int .i64 x0]) (Nat.le_of_ble_eq_true (by kernel_rfl)) (by rw [eq140]; exact h)

/-- jetway/seat.Right. -/
def B35 (l0_0 : Int) (l0_1 : Sl) (K : Value → World → Prop) (w : World) : Prop :=
  New (.cells #[.int .i64 l0_0, .slice l0_1.a l0_1.len l0_1.cap] 35 (0, 0)) (fun b_l1 w_1 =>
  ∃ t5 : Int, (At (fun w' => w' = w_1) ⟨b_l1, 0, none⟩ [.int .i64 t5]) ∧
  Br (decide (t5 < 1))
   (K (.bool false) w_1)
   (∃ t9 : Int, (At (fun w' => w' = w_1) ⟨b_l1, 0, none⟩ [.int .i64 t9]) ∧
    Br (decide (t9 > 60))
     (K (.bool false) w_1)
     (∃ t14 : Sl, (At (fun w' => w' = w_1) ⟨b_l1, 0 + 1, none⟩ [.slice t14.a t14.len t14.cap]) ∧
      Br (decide ((↑t14.len : Int) < 1))
       (K (.bool false) w_1)
       (∃ t20 : Sl, (At (fun w' => w' = w_1) ⟨b_l1, 0 + 1, none⟩ [.slice t20.a t20.len t20.cap]) ∧
        Br (decide ((↑t20.len : Int) > 4))
         (K (.bool false) w_1)
         (∃ t26 : Sl, (At (fun w' => w' = w_1) ⟨b_l1, 0 + 1, none⟩ [.slice t26.a t26.len t26.cap]) ∧
          Calls Tryz.prog 86 #[.slice t26.a t26.len t26.cap, .func (.func 85) #[] #[]] w_1 fun e w_2 =>
          ∃ t28 : Bool, (e = .returned (.bool t28)) ∧
          Br t28
           (K (.bool false) w_2)
           (∃ t30 : Int, ∃ t30_1 : Sl, (At (fun w' => w' = w_2) ⟨b_l1, 0, none⟩ [.int .i64 t30, .slice t30_1.a t30_1.len t30_1.cap]) ∧
            Calls Tryz.prog 87 #[.agg #[.int .i64 t30, .slice t30_1.a t30_1.len t30_1.cap]] w_2 fun e_1 w_3 =>
            ∃ t31 : Int, (e_1 = .returned (.int .i64 t31)) ∧
            K (.bool (decide (t31 ≤ 10))) w_3)))))) w

def sk35 : Sk := .leaf
theorem ok35 : fnOk Tryz.prog Tryz.f35.ntmps Tryz.f35 sk35 = true := by kernel_rfl
theorem eq35 (l0_0 : Int) (l0_1 : Sl) (K : Value → World → Prop) (w : World) : fnF Tryz.prog cl Tryz.f35 sk35 [.agg #[.int .i64 l0_0, .slice l0_1.a l0_1.len l0_1.cap]] K w = B35 l0_0 l0_1 K w := by kernel_rfl
theorem call35 (l0_0 : Int) (l0_1 : Sl) (K : Value → World → Prop) (w : World) (h : B35 l0_0 l0_1 K w) : Gets Tryz.prog 35 #[.agg #[.int .i64 l0_0, .slice l0_1.a l0_1.len l0_1.cap]] w K :=
  calls_of (sk := sk35) cl_ok mixed Tryz.func35 ok35 (args := [.agg #[.int .i64 l0_0, .slice l0_1.a l0_1.len l0_1.cap]]) (Nat.le_of_ble_eq_true (by kernel_rfl)) (by rw [eq35]; exact h)

/-- jetway/seat.Right$1. -/
def B85 (g0 : Int) (K : Value → World → Prop) (w : World) : Prop :=
  Br (decide (g0 < 1))
   (K (.bool true) w)
   (K (.bool (decide (g0 > 10))) w)

def sk85 : Sk := .leaf
theorem ok85 : fnOk Tryz.prog Tryz.f85.ntmps Tryz.f85 sk85 = true := by kernel_rfl
theorem eq85 (g0 : Int) (K : Value → World → Prop) (w : World) : fnF Tryz.prog cl Tryz.f85 sk85 [.int .i64 g0] K w = B85 g0 K w := by kernel_rfl
theorem call85 (g0 : Int) (K : Value → World → Prop) (w : World) (h : B85 g0 K w) : Gets Tryz.prog 85 #[.int .i64 g0] w K :=
  calls_of (sk := sk85) cl_ok mixed Tryz.func85 ok85 (args := [.int .i64 g0]) (Nat.le_of_ble_eq_true (by kernel_rfl)) (by rw [eq85]; exact h)

/-- jetway/seat.across. -/
def B87 (l0_0 : Int) (l0_1 : Sl) (K : Value → World → Prop) (w : World) : Prop :=
  New (.cells #[.int .i64 l0_0, .slice l0_1.a l0_1.len l0_1.cap] 35 (0, 0)) (fun b_l1 w_1 =>
  ∃ t7 : Sl, (At (fun w' => w' = w_1) ⟨b_l1, 0 + 1, none⟩ [.slice t7.a t7.len t7.cap]) ∧
  ∃ (I : Int → Int → World → Prop) (μ : Int → Int → World → Nat), (I 0 0 w_1) ∧ ∀ (z : Env) (n3 : Int) (t9 : Int) (w_2 : World), I n3 t9 w_2 →
  Br (decide (t9 < (↑t7.len : Int)))
   (Rng t9 t7.len (NilP t7.a fun a_t11 =>
    ∃ t12 : Int, (At (fun w' => w' = w_2) (Addr.add a_t11 t9.toNat) [.int .i64 t12]) ∧
    (I (IntKind.i64.wrap (n3 + t12)) (IntKind.i64.wrap (t9 + 1)) w_2) ∧ μ (IntKind.i64.wrap (n3 + t12)) (IntKind.i64.wrap (t9 + 1)) w_2 < μ n3 t9 w_2))
   (K (.int .i64 n3) w_2)) w

def sk87 : Sk := (.seq .leaf (.seq .leaf (.seq (.seq .leaf (.block (.loop [3, 9] [(.int .i64), (.int .i64)] [3, 5, 9, 10, 11, 12, 13, 14, 15, 16] .leaf))) .leaf)))
theorem ok87 : fnOk Tryz.prog Tryz.f87.ntmps Tryz.f87 sk87 = true := by kernel_rfl
theorem eq87 (l0_0 : Int) (l0_1 : Sl) (K : Value → World → Prop) (w : World) : fnF Tryz.prog cl Tryz.f87 sk87 [.agg #[.int .i64 l0_0, .slice l0_1.a l0_1.len l0_1.cap]] K w = B87 l0_0 l0_1 K w := by kernel_rfl
theorem call87 (l0_0 : Int) (l0_1 : Sl) (K : Value → World → Prop) (w : World) (h : B87 l0_0 l0_1 K w) : Gets Tryz.prog 87 #[.agg #[.int .i64 l0_0, .slice l0_1.a l0_1.len l0_1.cap]] w K :=
  calls_of (sk := sk87) cl_ok mixed Tryz.func87 ok87 (args := [.agg #[.int .i64 l0_0, .slice l0_1.a l0_1.len l0_1.cap]]) (Nat.le_of_ble_eq_true (by kernel_rfl)) (by rw [eq87]; exact h)

/-- jetway/seat.Count. -/
def B37 (l0_0 : Int) (l0_1 : Sl) (K : Value → World → Prop) (w : World) : Prop :=
  New (.cells #[.int .i64 l0_0, .slice l0_1.a l0_1.len l0_1.cap] 35 (0, 0)) (fun b_l1 w_1 =>
  ∃ t3 : Int, ∃ t3_1 : Sl, (At (fun w' => w' = w_1) ⟨b_l1, 0, none⟩ [.int .i64 t3, .slice t3_1.a t3_1.len t3_1.cap]) ∧
  Calls Tryz.prog 35 #[.agg #[.int .i64 t3, .slice t3_1.a t3_1.len t3_1.cap]] w_1 fun e w_2 =>
  ∃ t4 : Bool, (e = .returned (.bool t4)) ∧
  Br (!t4)
   (K (.int .i64 0) w_2)
   (Drw w_2 fun S w_3 =>
    ∃ t7 : Int, (At S ⟨b_l1, 0, none⟩ [.int .i64 t7]) ∧
    ∃ t8 : Int, ∃ t8_1 : Sl, (At S ⟨b_l1, 0, none⟩ [.int .i64 t8, .slice t8_1.a t8_1.len t8_1.cap]) ∧
    Calls Tryz.prog 87 #[.agg #[.int .i64 t8, .slice t8_1.a t8_1.len t8_1.cap]] w_3 fun e_1 w_4 =>
    ∃ t9 : Int, (e_1 = .returned (.int .i64 t9)) ∧
    (S w_4) ∧
    K (.int .i64 (IntKind.i64.wrap (t7 * t9))) w_4)) w

def sk37 : Sk := .leaf
theorem ok37 : fnOk Tryz.prog Tryz.f37.ntmps Tryz.f37 sk37 = true := by kernel_rfl
theorem eq37 (l0_0 : Int) (l0_1 : Sl) (K : Value → World → Prop) (w : World) : fnF Tryz.prog cl Tryz.f37 sk37 [.agg #[.int .i64 l0_0, .slice l0_1.a l0_1.len l0_1.cap]] K w = B37 l0_0 l0_1 K w := by kernel_rfl
theorem call37 (l0_0 : Int) (l0_1 : Sl) (K : Value → World → Prop) (w : World) (h : B37 l0_0 l0_1 K w) : Gets Tryz.prog 37 #[.agg #[.int .i64 l0_0, .slice l0_1.a l0_1.len l0_1.cap]] w K :=
  calls_of (sk := sk37) cl_ok mixed Tryz.func37 ok37 (args := [.agg #[.int .i64 l0_0, .slice l0_1.a l0_1.len l0_1.cap]]) (Nat.le_of_ble_eq_true (by kernel_rfl)) (by rw [eq37]; exact h)

/-- jetway/seat.has. -/
def B102 (l0_0 : Int) (l0_1 : Sl) (n1 : Int) (K : Value → World → Prop) (w : World) : Prop :=
  New (.cells #[.int .i64 l0_0, .slice l0_1.a l0_1.len l0_1.cap] 35 (0, 0)) (fun b_l2 w_1 =>
  Br (decide (n1 ≥ 0))
   (∃ t9 : Int, ∃ t9_1 : Sl, (At (fun w' => w' = w_1) ⟨b_l2, 0, none⟩ [.int .i64 t9, .slice t9_1.a t9_1.len t9_1.cap]) ∧
    Calls Tryz.prog 37 #[.agg #[.int .i64 t9, .slice t9_1.a t9_1.len t9_1.cap]] w_1 fun e w_2 =>
    ∃ t10 : Int, (e = .returned (.int .i64 t10)) ∧
    K (.bool (decide (n1 < t10))) w_2)
   (K (.bool false) w_1)) w

def sk102 : Sk := .leaf
theorem ok102 : fnOk Tryz.prog Tryz.f102.ntmps Tryz.f102 sk102 = true := by kernel_rfl
theorem eq102 (l0_0 : Int) (l0_1 : Sl) (n1 : Int) (K : Value → World → Prop) (w : World) : fnF Tryz.prog cl Tryz.f102 sk102 [.agg #[.int .i64 l0_0, .slice l0_1.a l0_1.len l0_1.cap], .int .i64 n1] K w = B102 l0_0 l0_1 n1 K w := by kernel_rfl
theorem call102 (l0_0 : Int) (l0_1 : Sl) (n1 : Int) (K : Value → World → Prop) (w : World) (h : B102 l0_0 l0_1 n1 K w) : Gets Tryz.prog 102 #[.agg #[.int .i64 l0_0, .slice l0_1.a l0_1.len l0_1.cap], .int .i64 n1] w K :=
  calls_of (sk := sk102) cl_ok mixed Tryz.func102 ok102 (args := [.agg #[.int .i64 l0_0, .slice l0_1.a l0_1.len l0_1.cap], .int .i64 n1]) (Nat.le_of_ble_eq_true (by kernel_rfl)) (by rw [eq102]; exact h)

/-- jetway/seat.Label. -/
def B108 (l0_0 : Int) (l0_1 : Sl) (n1 : Int) (K : Value → World → Prop) (w : World) : Prop :=
  New (.cells #[.int .i64 l0_0, .slice l0_1.a l0_1.len l0_1.cap] 35 (0, 0)) (fun b_l2 w_1 =>
  ∃ t7 : Int, ∃ t7_1 : Sl, (At (fun w' => w' = w_1) ⟨b_l2, 0, none⟩ [.int .i64 t7, .slice t7_1.a t7_1.len t7_1.cap]) ∧
  Calls Tryz.prog 102 #[.agg #[.int .i64 t7, .slice t7_1.a t7_1.len t7_1.cap], .int .i64 n1] w_1 fun e w_2 =>
  ∃ t9 : Bool, (e = .returned (.bool t9)) ∧
  Br (!t9)
   (K (.tuple #[.string (ByteArray.mk #[]), .int .i64 1]) w_2)
   (∃ t11 : Int, ∃ t11_1 : Sl, (At (fun w' => w' = w_2) ⟨b_l2, 0, none⟩ [.int .i64 t11, .slice t11_1.a t11_1.len t11_1.cap]) ∧
    Calls Tryz.prog 87 #[.agg #[.int .i64 t11, .slice t11_1.a t11_1.len t11_1.cap]] w_2 fun e_1 w_3 =>
    ∃ t12 : Int, (e_1 = .returned (.int .i64 t12)) ∧
    Drw w_3 fun S w_4 =>
    Nz t12 (Nz t12 (Nz t12 (((0 : Int) ≤ IntKind.i64.wrap (n1.tmod t12 + 1)) ∧
    ((IntKind.i64.wrap (n1.tmod t12 + 1) : Int) ≤ 10) ∧
    ((0 : Int) ≤ n1.tmod t12) ∧
    ((n1.tmod t12 : Int) ≤ (↑(IntKind.i64.wrap (n1.tmod t12 + 1)).toNat : Int)) ∧
    Calls Tryz.prog 128 #[.int .i64 (IntKind.i64.wrap (IntKind.i64.wrap (n1.tdiv t12) + 1))] w_4 fun e_2 w_5 =>
    ∃ t17 : ByteArray, (e_2 = .returned (.string t17)) ∧
    (((↑(t17.size + ((ByteArray.mk #[65, 66, 67, 68, 69, 70, 71, 72, 74, 75]).extract (n1.tmod t12).toNat (IntKind.i64.wrap (n1.tmod t12 + 1)).toNat).size) : Int) : Int) ≤ 9223372036854775807) ∧
    K (.tuple #[.string (t17 ++ (ByteArray.mk #[65, 66, 67, 68, 69, 70, 71, 72, 74, 75]).extract (n1.tmod t12).toNat (IntKind.i64.wrap (n1.tmod t12 + 1)).toNat), .int .i64 0]) w_5))))) w

def sk108 : Sk := .leaf
theorem ok108 : fnOk Tryz.prog Tryz.f108.ntmps Tryz.f108 sk108 = true := by kernel_rfl
theorem eq108 (l0_0 : Int) (l0_1 : Sl) (n1 : Int) (K : Value → World → Prop) (w : World) : fnF Tryz.prog cl Tryz.f108 sk108 [.agg #[.int .i64 l0_0, .slice l0_1.a l0_1.len l0_1.cap], .int .i64 n1] K w = B108 l0_0 l0_1 n1 K w := by kernel_rfl
theorem call108 (l0_0 : Int) (l0_1 : Sl) (n1 : Int) (K : Value → World → Prop) (w : World) (h : B108 l0_0 l0_1 n1 K w) : Gets Tryz.prog 108 #[.agg #[.int .i64 l0_0, .slice l0_1.a l0_1.len l0_1.cap], .int .i64 n1] w K :=
  calls_of (sk := sk108) cl_ok mixed Tryz.func108 ok108 (args := [.agg #[.int .i64 l0_0, .slice l0_1.a l0_1.len l0_1.cap], .int .i64 n1]) (Nat.le_of_ble_eq_true (by kernel_rfl)) (by rw [eq108]; exact h)

/-- jetway/seat.Find. -/
def B112 (l0_0 : Int) (l0_1 : Sl) (label1 : ByteArray) (K : Value → World → Prop) (w : World) : Prop :=
  New (.cells #[.int .i64 l0_0, .slice l0_1.a l0_1.len l0_1.cap] 35 (0, 0)) (fun b_l2 w_1 =>
  ∃ t10 : Int, ∃ t10_1 : Sl, (At (fun w' => w' = w_1) ⟨b_l2, 0, none⟩ [.int .i64 t10, .slice t10_1.a t10_1.len t10_1.cap]) ∧
  Calls Tryz.prog 35 #[.agg #[.int .i64 t10, .slice t10_1.a t10_1.len t10_1.cap]] w_1 fun e w_2 =>
  ∃ t11 : Bool, (e = .returned (.bool t11)) ∧
  Br (!t11)
   (K (.tuple #[.int .i64 0, .int .i64 1]) w_2)
   (New (.stringIter label1 0) (fun b_t14 w_3 =>
    ∃ (I : Int → Int → World → Prop) (μ : Int → Int → World → Nat), (I 0 ((-1)) w_3) ∧ ∀ (z : Env) (row6 : Int) (last7 : Int) (w_4 : World), I row6 last7 w_4 →
    NextS ((some ⟨b_t14, 0, none⟩)) (fun i c w_5 =>
      ∃ (J : Bool → World → Prop), (Br (decide (last7 ≥ 0))
         (J true w_5)
         (Br (i == 0)
           (Br (c == 48)
             (J true w_5)
             (J (decide (row6 > 60)) w_5))
           (J (decide (row6 > 60)) w_5))) ∧
      ∀ (z_1 : Env) (t23 : Bool) (w_6 : World), J t23 w_6 →
      Br t23
       (K (.tuple #[.int .i64 0, .int .i64 2]) w_6)
       (∃ (J_1 : Bool → World → Prop), (Br (decide (c ≥ 48))
           (J_1 (decide (c ≤ 57)) w_6)
           (J_1 false w_6)) ∧
        ∀ (z_2 : Env) (t38 : Bool) (w_7 : World), J_1 t38 w_7 →
        Br t38
         ((I (IntKind.i64.wrap (IntKind.i64.wrap (10 * row6) + IntKind.i64.wrap (IntKind.i32.wrap (c - 48)))) last7 w_7) ∧ μ (IntKind.i64.wrap (IntKind.i64.wrap (10 * row6) + IntKind.i64.wrap (IntKind.i32.wrap (c - 48)))) last7 w_7 < μ row6 last7 w_4)
         (Calls Tryz.prog 129 #[.int .i32 c] w_7 fun e_1 w_8 =>
          ∃ t20 : Int, (e_1 = .returned (.int .i64 t20)) ∧
          Br (decide (t20 < 0))
           (K (.tuple #[.int .i64 0, .int .i64 2]) w_8)
           ((I row6 t20 w_8) ∧ μ row6 t20 w_8 < μ row6 last7 w_4))))
     (fun w_9 =>
      Br (decide (row6 < 1))
       (K (.tuple #[.int .i64 0, .int .i64 2]) w_9)
       (∃ t56 : Int, (At (fun w' => w' = w_9) ⟨b_l2, 0, none⟩ [.int .i64 t56]) ∧
        Br (decide (row6 > t56))
         (K (.tuple #[.int .i64 0, .int .i64 2]) w_9)
         (Br (decide (last7 < 0))
           (K (.tuple #[.int .i64 0, .int .i64 2]) w_9)
           (∃ t65 : Int, ∃ t65_1 : Sl, (At (fun w' => w' = w_9) ⟨b_l2, 0, none⟩ [.int .i64 t65, .slice t65_1.a t65_1.len t65_1.cap]) ∧
            Calls Tryz.prog 87 #[.agg #[.int .i64 t65, .slice t65_1.a t65_1.len t65_1.cap]] w_9 fun e_2 w_10 =>
            ∃ t66 : Int, (e_2 = .returned (.int .i64 t66)) ∧
            Br (decide (last7 ≥ t66))
             (K (.tuple #[.int .i64 0, .int .i64 2]) w_10)
             (∃ t71 : Int, ∃ t71_1 : Sl, (At (fun w' => w' = w_10) ⟨b_l2, 0, none⟩ [.int .i64 t71, .slice t71_1.a t71_1.len t71_1.cap]) ∧
              Calls Tryz.prog 87 #[.agg #[.int .i64 t71, .slice t71_1.a t71_1.len t71_1.cap]] w_10 fun e_3 w_11 =>
              ∃ t72 : Int, (e_3 = .returned (.int .i64 t72)) ∧
              K (.tuple #[.int .i64 (IntKind.i64.wrap (IntKind.i64.wrap (IntKind.i64.wrap (row6 - 1) * t72) + last7)), .int .i64 0]) w_11))))) w_4) w_2)) w

def sk112 : Sk := (.seq .leaf (.seq .leaf (.seq .leaf (.seq (.seq .leaf (.block (.loop [6, 7] [(.int .i64), (.int .i64)] [4, 5, 6, 7, 8, 9, 15, 16, 17, 18, 19, 20, 21, 22, 23, 24, 25, 26, 27, 28, 29, 30, 31, 32, 33, 34, 35, 36, 37, 38, 39, 40, 41, 42, 43, 44, 45, 46, 47, 48, 49, 50] (.seq .leaf (.seq .leaf (.block (.seq .leaf (.block (.cut [23] [.bool] [23, 24, 25, 26, 27, 28, 29, 30, 31, 32, 33, 34, 35, 36, 37] .leaf (.cond .leaf (.cut [38] [.bool] [38, 39, 40, 41, 42, 43, 44] .leaf .leaf))))))))))) .leaf))))
theorem ok112 : fnOk Tryz.prog Tryz.f112.ntmps Tryz.f112 sk112 = true := by kernel_rfl
theorem eq112 (l0_0 : Int) (l0_1 : Sl) (label1 : ByteArray) (K : Value → World → Prop) (w : World) : fnF Tryz.prog cl Tryz.f112 sk112 [.agg #[.int .i64 l0_0, .slice l0_1.a l0_1.len l0_1.cap], .string label1] K w = B112 l0_0 l0_1 label1 K w := by kernel_rfl
theorem call112 (l0_0 : Int) (l0_1 : Sl) (label1 : ByteArray) (K : Value → World → Prop) (w : World) (h : B112 l0_0 l0_1 label1 K w) : Gets Tryz.prog 112 #[.agg #[.int .i64 l0_0, .slice l0_1.a l0_1.len l0_1.cap], .string label1] w K :=
  calls_of (sk := sk112) cl_ok mixed Tryz.func112 ok112 (args := [.agg #[.int .i64 l0_0, .slice l0_1.a l0_1.len l0_1.cap], .string label1]) (Nat.le_of_ble_eq_true (by kernel_rfl)) (by rw [eq112]; exact h)

/-- jetway/seat.column. -/
def B129 (c0 : Int) (K : Value → World → Prop) (w : World) : Prop :=
  ∃ (I : Int → World → Prop) (μ : Int → World → Nat), (I 0 w) ∧ ∀ (z : Env) (t4 : Int) (w_1 : World), I t4 w_1 →
  Br (decide (t4 < 10))
   (∃ t8 : UInt8, ((0 : Int) ≤ t4) ∧
    ((ByteArray.mk #[65, 66, 67, 68, 69, 70, 71, 72, 74, 75])[t4.toNat]? = some t8) ∧
    Br (IntKind.i32.wrap (↑t8.toNat : Int) == c0)
     (K (.int .i64 t4) w_1)
     ((I (IntKind.i64.wrap (t4 + 1)) w_1) ∧ μ (IntKind.i64.wrap (t4 + 1)) w_1 < μ t4 w_1))
   (K (.int .i64 ((-1))) w_1)

def sk129 : Sk := (.seq .leaf (.seq (.seq .leaf (.block (.loop [4] [(.int .i64)] [2, 3, 4, 5, 6, 7, 8, 9, 10, 11, 12, 13] .leaf))) .leaf))
theorem ok129 : fnOk Tryz.prog Tryz.f129.ntmps Tryz.f129 sk129 = true := by kernel_rfl
theorem eq129 (c0 : Int) (K : Value → World → Prop) (w : World) : fnF Tryz.prog cl Tryz.f129 sk129 [.int .i32 c0] K w = B129 c0 K w := by kernel_rfl
theorem call129 (c0 : Int) (K : Value → World → Prop) (w : World) (h : B129 c0 K w) : Gets Tryz.prog 129 #[.int .i32 c0] w K :=
  calls_of (sk := sk129) cl_ok mixed Tryz.func129 ok129 (args := [.int .i32 c0]) (Nat.le_of_ble_eq_true (by kernel_rfl)) (by rw [eq129]; exact h)

/-- jetway/seat.sides. -/
def B103 (l0_0 : Int) (l0_1 : Sl) (n1 : Int) (K : Value → World → Prop) (w : World) : Prop :=
  New (.cells #[.int .i64 l0_0, .slice l0_1.a l0_1.len l0_1.cap] 35 (0, 0)) (fun b_l2 w_1 =>
  ∃ t10 : Int, ∃ t10_1 : Sl, (At (fun w' => w' = w_1) ⟨b_l2, 0, none⟩ [.int .i64 t10, .slice t10_1.a t10_1.len t10_1.cap]) ∧
  Calls Tryz.prog 87 #[.agg #[.int .i64 t10, .slice t10_1.a t10_1.len t10_1.cap]] w_1 fun e w_2 =>
  ∃ t11 : Int, (e = .returned (.int .i64 t11)) ∧
  Nz t11 (∃ t14 : Sl, (At (fun w' => w' = w_2) ⟨b_l2, 0 + 1, none⟩ [.slice t14.a t14.len t14.cap]) ∧
  ∃ (I : Int → Int → World → Prop) (μ : Int → Int → World → Nat), (I (n1.tmod t11) 0 w_2) ∧ ∀ (z : Env) (at6 : Int) (t16 : Int) (w_3 : World), I at6 t16 w_3 →
  Br (decide (t16 < (↑t14.len : Int)))
   (Rng t16 t14.len (NilP t14.a fun a_t18 =>
    ∃ t19 : Int, (At (fun w' => w' = w_3) (Addr.add a_t18 t16.toNat) [.int .i64 t19]) ∧
    Br (decide (at6 < t19))
     (K (.tuple #[.int .i64 at6, .int .i64 (IntKind.i64.wrap (IntKind.i64.wrap (t19 - 1) - at6))]) w_3)
     ((I (IntKind.i64.wrap (at6 - t19)) (IntKind.i64.wrap (t16 + 1)) w_3) ∧ μ (IntKind.i64.wrap (at6 - t19)) (IntKind.i64.wrap (t16 + 1)) w_3 < μ at6 t16 w_3)))
   (K (.tuple #[.int .i64 0, .int .i64 0]) w_3))) w

def sk103 : Sk := (.seq .leaf (.seq .leaf (.seq (.seq .leaf (.block (.loop [6, 16] [(.int .i64), (.int .i64)] [4, 5, 6, 8, 16, 17, 18, 19, 20, 21, 22, 23, 24, 25, 26, 27, 28, 29, 30, 31] .leaf))) .leaf)))
theorem ok103 : fnOk Tryz.prog Tryz.f103.ntmps Tryz.f103 sk103 = true := by kernel_rfl
theorem eq103 (l0_0 : Int) (l0_1 : Sl) (n1 : Int) (K : Value → World → Prop) (w : World) : fnF Tryz.prog cl Tryz.f103 sk103 [.agg #[.int .i64 l0_0, .slice l0_1.a l0_1.len l0_1.cap], .int .i64 n1] K w = B103 l0_0 l0_1 n1 K w := by kernel_rfl
theorem call103 (l0_0 : Int) (l0_1 : Sl) (n1 : Int) (K : Value → World → Prop) (w : World) (h : B103 l0_0 l0_1 n1 K w) : Gets Tryz.prog 103 #[.agg #[.int .i64 l0_0, .slice l0_1.a l0_1.len l0_1.cap], .int .i64 n1] w K :=
  calls_of (sk := sk103) cl_ok mixed Tryz.func103 ok103 (args := [.agg #[.int .i64 l0_0, .slice l0_1.a l0_1.len l0_1.cap], .int .i64 n1]) (Nat.le_of_ble_eq_true (by kernel_rfl)) (by rw [eq103]; exact h)

/-- jetway/seat.Best. -/
def B62 (l0_0 : Int) (l0_1 : Sl) (taken1 : Sl) (many2 : Int) (K : Value → World → Prop) (w : World) : Prop :=
  New (.cells #[.int .i64 l0_0, .slice l0_1.a l0_1.len l0_1.cap] 35 (0, 0)) (fun b_l3 w_1 =>
  ∃ (J : World → Prop), (Br (decide (many2 < 1))
     (K (.tuple #[.slice none 0 0, .int .i64 1]) w_1)
     (∃ t20 : Int, ∃ t20_1 : Sl, (At (fun w' => w' = w_1) ⟨b_l3, 0, none⟩ [.int .i64 t20, .slice t20_1.a t20_1.len t20_1.cap]) ∧
      Calls Tryz.prog 37 #[.agg #[.int .i64 t20, .slice t20_1.a t20_1.len t20_1.cap]] w_1 fun e w_2 =>
      ∃ t21 : Int, (e = .returned (.int .i64 t21)) ∧
      Br (decide (many2 > t21))
       (K (.tuple #[.slice none 0 0, .int .i64 1]) w_2)
       (J  w_2))) ∧
  ∀ (z : Env)  (w_3 : World), J  w_3 →
  ∃ t24 : Int, ∃ t24_1 : Sl, (At (fun w' => w' = w_3) ⟨b_l3, 0, none⟩ [.int .i64 t24, .slice t24_1.a t24_1.len t24_1.cap]) ∧
  Calls Tryz.prog 37 #[.agg #[.int .i64 t24, .slice t24_1.a t24_1.len t24_1.cap]] w_3 fun e_1 w_4 =>
  ∃ t25 : Int, (e_1 = .returned (.int .i64 t25)) ∧
  ∃ w_5 : World, ∃ t26 : Sl, ((Instr.makeSlice 134 (.int .i64 t25) (.int .i64 t25)).run Tryz.prog w_4 = .ok (.slice t26.a t26.len t26.cap) w_5) ∧
  ∃ (I : Int → World → Prop) (μ : Int → World → Nat), (I 0 w_5) ∧ ∀ (z_1 : Env) (t29 : Int) (w_6 : World), I t29 w_6 →
  Br (decide (t29 < (↑taken1.len : Int)))
   (Rng t29 taken1.len (NilP taken1.a fun a_t31 =>
    ∃ t32 : Int, (At (fun w' => w' = w_6) (Addr.add a_t31 t29.toNat) [.int .i64 t32]) ∧
    ∃ t33 : Int, ∃ t33_1 : Sl, (At (fun w' => w' = w_6) ⟨b_l3, 0, none⟩ [.int .i64 t33, .slice t33_1.a t33_1.len t33_1.cap]) ∧
    Calls Tryz.prog 102 #[.agg #[.int .i64 t33, .slice t33_1.a t33_1.len t33_1.cap], .int .i64 t32] w_6 fun e_2 w_7 =>
    ∃ t35 : Bool, (e_2 = .returned (.bool t35)) ∧
    Br t35
     (Rng t32 t26.len (NilP t26.a fun a_t38 =>
      ∃ w_8 : World, ((Instr.storeAt 4 (.pointer ((some (Addr.add a_t38 t32.toNat)))) (.bool true)).run Tryz.prog w_7 = .ok () w_8) ∧
      (I (IntKind.i64.wrap (t29 + 1)) w_8) ∧ μ (IntKind.i64.wrap (t29 + 1)) w_8 < μ t29 w_6))
     ((I (IntKind.i64.wrap (t29 + 1)) w_7) ∧ μ (IntKind.i64.wrap (t29 + 1)) w_7 < μ t29 w_6)))
   (∃ t40 : Int, ∃ t40_1 : Sl, (At (fun w' => w' = w_6) ⟨b_l3, 0, none⟩ [.int .i64 t40, .slice t40_1.a t40_1.len t40_1.cap]) ∧
    Calls Tryz.prog 37 #[.agg #[.int .i64 t40, .slice t40_1.a t40_1.len t40_1.cap]] w_6 fun e_3 w_9 =>
    ∃ t41 : Int, (e_3 = .returned (.int .i64 t41)) ∧
    ∃ (I_1 : Sl → Sl → Int → World → Prop) (μ_1 : Sl → Sl → Int → World → Nat), (I_1 ⟨none, 0, 0⟩ ⟨none, 0, 0⟩ 0 w_9) ∧ ∀ (z_2 : Env) (free11 : Sl) (run12 : Sl) (t42 : Int) (w_10 : World), I_1 free11 run12 t42 w_10 →
    Br (decide (t42 < t41))
     (∃ (J_1 : Sl → World → Prop), (∃ t46 : Int, ∃ t46_1 : Sl, (At (fun w' => w' = w_10) ⟨b_l3, 0, none⟩ [.int .i64 t46, .slice t46_1.a t46_1.len t46_1.cap]) ∧
        Calls Tryz.prog 103 #[.agg #[.int .i64 t46, .slice t46_1.a t46_1.len t46_1.cap], .int .i64 t42] w_10 fun e_4 w_11 =>
        ∃ t48 : Int, ∃ t48_1 : Int, (e_4 = .returned (.tuple #[.int .i64 t48, .int .i64 t48_1])) ∧
        Br (t48 == 0)
         (J_1 ⟨none, 0, 0⟩ w_11)
         (Rng t42 t26.len (NilP t26.a fun a_t56 =>
          ∃ t57 : Bool, (At (fun w' => w' = w_11) (Addr.add a_t56 t42.toNat) [.bool t57]) ∧
          Br t57
           (J_1 ⟨none, 0, 0⟩ w_11)
           (J_1 run12 w_11)))) ∧
      ∀ (z_3 : Env) (run12_1 : Sl) (w_12 : World), J_1 run12_1 w_12 →
      Rng t42 t26.len (NilP t26.a fun a_t61 =>
      ∃ t62 : Bool, (At (fun w' => w' = w_12) (Addr.add a_t61 t42.toNat) [.bool t62]) ∧
      Br t62
       ((I_1 free11 run12_1 (IntKind.i64.wrap (t42 + 1)) w_12) ∧ μ_1 free11 run12_1 (IntKind.i64.wrap (t42 + 1)) w_12 < μ_1 free11 run12 t42 w_10)
       (New (.cells #[.int .i64 t42] 3 (0, 0)) (fun b_t65 w_13 =>
        ∃ w_14 : World, ∃ t66 : Sl, ((Builtin.append_ #[33, 33] 33 #[.slice free11.a free11.len free11.cap, .slice ((some ⟨b_t65, 0, none⟩)) 1 1]).run Tryz.prog w_13 = .ok (.slice t66.a t66.len t66.cap) w_14) ∧
        New (.cells #[.int .i64 t42] 3 (0, 0)) (fun b_t69 w_15 =>
        ∃ w_16 : World, ∃ t70 : Sl, ((Builtin.append_ #[33, 33] 33 #[.slice run12_1.a run12_1.len run12_1.cap, .slice ((some ⟨b_t69, 0, none⟩)) 1 1]).run Tryz.prog w_15 = .ok (.slice t70.a t70.len t70.cap) w_16) ∧
        Br ((↑t70.len : Int) == many2)
         (K (.tuple #[.slice t70.a t70.len t70.cap, .int .i64 0]) w_16)
         ((I_1 t66 t70 (IntKind.i64.wrap (t42 + 1)) w_16) ∧ μ_1 t66 t70 (IntKind.i64.wrap (t42 + 1)) w_16 < μ_1 free11 run12 t42 w_10)) w_14) w_12)))
     (Br (decide ((↑free11.len : Int) < many2))
       (K (.tuple #[.slice none 0 0, .int .i64 3]) w_10)
       (((0 : Int) ≤ many2) ∧
        ((many2 : Int) ≤ (↑free11.cap : Int)) ∧
        K (.tuple #[.slice free11.a many2.toNat free11.cap, .int .i64 0]) w_10)))) w

def sk62 : Sk := (.seq .leaf (.cut [] [] [6, 7, 16, 17, 18, 19, 20, 21, 22, 23] .leaf (.seq .leaf (.seq (.seq .leaf (.block (.loop [29] [(.int .i64)] [10, 29, 30, 31, 32, 33, 34, 35, 36, 37, 38, 39] .leaf))) (.seq .leaf (.seq (.seq .leaf (.block (.loop [11, 12, 42] [.sl, .sl, (.int .i64)] [6, 7, 11, 12, 13, 14, 15, 42, 43, 44, 45, 46, 47, 48, 49, 50, 51, 52, 53, 54, 55, 56, 57, 58, 59, 60, 61, 62, 63, 64, 65, 66, 67, 68, 69, 70, 71, 72, 73, 74, 75, 76] (.seq .leaf (.seq .leaf (.seq (.block (.seq .leaf (.cut [12] [.sl] [12, 14, 15, 45, 46, 47, 48, 49, 50, 51, 52, 53, 54, 55, 56, 57, 58] .leaf .leaf))) .leaf)))))) .leaf))))))
theorem ok62 : fnOk Tryz.prog Tryz.f62.ntmps Tryz.f62 sk62 = true := by kernel_rfl
theorem eq62 (l0_0 : Int) (l0_1 : Sl) (taken1 : Sl) (many2 : Int) (K : Value → World → Prop) (w : World) : fnF Tryz.prog cl Tryz.f62 sk62 [.agg #[.int .i64 l0_0, .slice l0_1.a l0_1.len l0_1.cap], .slice taken1.a taken1.len taken1.cap, .int .i64 many2] K w = B62 l0_0 l0_1 taken1 many2 K w := by kernel_rfl
theorem call62 (l0_0 : Int) (l0_1 : Sl) (taken1 : Sl) (many2 : Int) (K : Value → World → Prop) (w : World) (h : B62 l0_0 l0_1 taken1 many2 K w) : Gets Tryz.prog 62 #[.agg #[.int .i64 l0_0, .slice l0_1.a l0_1.len l0_1.cap], .slice taken1.a taken1.len taken1.cap, .int .i64 many2] w K :=
  calls_of (sk := sk62) cl_ok mixed Tryz.func62 ok62 (args := [.agg #[.int .i64 l0_0, .slice l0_1.a l0_1.len l0_1.cap], .slice taken1.a taken1.len taken1.cap, .int .i64 many2]) (Nat.le_of_ble_eq_true (by kernel_rfl)) (by rw [eq62]; exact h)

/-- jetway/nest.within. -/
def B118 (n0 : Int) (K : Value → World → Prop) (w : World) : Prop :=
  Br (decide (n0 ≥ 0))
   (K (.bool (decide (n0 ≤ 10000))) w)
   (K (.bool false) w)

def sk118 : Sk := .leaf
theorem ok118 : fnOk Tryz.prog Tryz.f118.ntmps Tryz.f118 sk118 = true := by kernel_rfl
theorem eq118 (n0 : Int) (K : Value → World → Prop) (w : World) : fnF Tryz.prog cl Tryz.f118 sk118 [.int .i64 n0] K w = B118 n0 K w := by kernel_rfl
theorem call118 (n0 : Int) (K : Value → World → Prop) (w : World) (h : B118 n0 K w) : Gets Tryz.prog 118 #[.int .i64 n0] w K :=
  calls_of (sk := sk118) cl_ok mixed Tryz.func118 ok118 (args := [.int .i64 n0]) (Nat.le_of_ble_eq_true (by kernel_rfl)) (by rw [eq118]; exact h)

/-- jetway/nest.lefts. -/
def B88 (limits0 : Sl) (sold1 : Sl) (ask2 : Value) (K : Value → World → Prop) (w : World) : Prop :=
  ∃ (J : World → Prop), (Br (decide ((↑limits0.len : Int) < 1))
     (K (.bool false) w)
     (Br (decide ((↑limits0.len : Int) > 8))
       (K (.bool false) w)
       (Br ((↑sold1.len : Int) != (↑limits0.len : Int))
         (K (.bool false) w)
         (J  w)))) ∧
  ∀ (z : Env)  (w_1 : World), J  w_1 →
  ∃ (I : Int → Bool → Int → World → Prop) (μ : Int → Bool → Int → World → Nat), (I 0 true (IntKind.i64.wrap ((↑limits0.len : Int) - 1)) w_1) ∧ ∀ (z_1 : Env) (sum7 : Int) (fine8 : Bool) (k9 : Int) (w_2 : World), I sum7 fine8 k9 w_2 →
  Br (decide (k9 ≥ 0))
   (∃ (J_1 : World → Prop), (Drw w_2 fun S w_3 =>
      Rng k9 limits0.len (NilP limits0.a fun a_t34 =>
      ∃ t35 : Int, (At S (Addr.add a_t34 k9.toNat) [.int .i64 t35]) ∧
      Calls Tryz.prog 118 #[.int .i64 t35] w_3 fun e w_4 =>
      ∃ t36 : Bool, (e = .returned (.bool t36)) ∧
      (S w_4) ∧
      Br (!t36)
       (K (.bool false) w_4)
       (Rng k9 sold1.len (NilP sold1.a fun a_t41 =>
        ∃ t42 : Int, (At S (Addr.add a_t41 k9.toNat) [.int .i64 t42]) ∧
        Calls Tryz.prog 118 #[.int .i64 t42] w_4 fun e_1 w_5 =>
        ∃ t43 : Bool, (e_1 = .returned (.bool t43)) ∧
        (S w_5) ∧
        Br (!t43)
         (K (.bool false) w_5)
         (Br (decide (k9 > 0))
           (Rng k9 limits0.len (NilP limits0.a fun a_t52 =>
            ∃ t53 : Int, (At S (Addr.add a_t52 k9.toNat) [.int .i64 t53]) ∧
            Rng (IntKind.i64.wrap (k9 - 1)) limits0.len (NilP limits0.a fun a_t57 =>
            ∃ t58 : Int, (At S (Addr.add a_t57 ((IntKind.i64.wrap (k9 - 1)).toNat)) [.int .i64 t58]) ∧
            Br (decide (t53 > t58))
             (K (.bool false) w_5)
             (J_1  w_5))))
           (J_1  w_5)))))) ∧
    ∀ (z_2 : Env)  (w_6 : World), J_1  w_6 →
    Rng k9 sold1.len (NilP sold1.a fun a_t65 =>
    ∃ t66 : Int, (At (fun w' => w' = w_6) (Addr.add a_t65 k9.toNat) [.int .i64 t66]) ∧
    Br fine8
     (Rng k9 limits0.len (NilP limits0.a fun a_t73 =>
      ∃ t74 : Int, (At (fun w' => w' = w_6) (Addr.add a_t73 k9.toNat) [.int .i64 t74]) ∧
      Rng k9 limits0.len (NilP limits0.a fun a_t81 =>
      ∃ t82 : Int, (At (fun w' => w' = w_6) (Addr.add a_t81 k9.toNat) [.int .i64 t82]) ∧
      CalW Tryz.prog cl ask2 [.int .i64 k9, .int .i64 (IntKind.i64.wrap (t82 - IntKind.i64.wrap (sum7 + t66)))] w_6 fun e_2 w_7 =>
      (e_2 = .returned (.tuple #[])) ∧
      (I (IntKind.i64.wrap (sum7 + t66)) (decide (IntKind.i64.wrap (sum7 + t66) ≤ t74)) (IntKind.i64.wrap (k9 - 1)) w_7) ∧ μ (IntKind.i64.wrap (sum7 + t66)) (decide (IntKind.i64.wrap (sum7 + t66) ≤ t74)) (IntKind.i64.wrap (k9 - 1)) w_7 < μ sum7 fine8 k9 w_2)))
     (Rng k9 limits0.len (NilP limits0.a fun a_t81_1 =>
      ∃ t82_1 : Int, (At (fun w' => w' = w_6) (Addr.add a_t81_1 k9.toNat) [.int .i64 t82_1]) ∧
      CalW Tryz.prog cl ask2 [.int .i64 k9, .int .i64 (IntKind.i64.wrap (t82_1 - IntKind.i64.wrap (sum7 + t66)))] w_6 fun e_3 w_8 =>
      (e_3 = .returned (.tuple #[])) ∧
      (I (IntKind.i64.wrap (sum7 + t66)) false (IntKind.i64.wrap (k9 - 1)) w_8) ∧ μ (IntKind.i64.wrap (sum7 + t66)) false (IntKind.i64.wrap (k9 - 1)) w_8 < μ sum7 fine8 k9 w_2))))
   (K (.bool fine8) w_2)

def sk88 : Sk := (.seq .leaf (.cut [] [] [6, 10, 11, 12, 13, 14, 15, 16, 17, 18, 19, 20, 21, 22, 23, 24] .leaf (.seq .leaf (.seq (.seq .leaf (.block (.loop [7, 8, 9] [(.int .i64), .bool, (.int .i64)] [6, 7, 8, 9, 28, 29, 30, 31, 32, 33, 34, 35, 36, 37, 38, 39, 40, 41, 42, 43, 44, 45, 46, 47, 48, 49, 50, 51, 52, 53, 54, 55, 56, 57, 58, 59, 60, 61, 62, 63, 64, 65, 66, 67, 68, 69, 70, 71, 72, 73, 74, 75, 76, 77, 78, 79, 80, 81, 82, 83, 84, 85] (.seq .leaf (.seq (.block (.cut [] [] [6, 32, 33, 34, 35, 36, 37, 38, 39, 40, 41, 42, 43, 44, 45, 46, 47, 48, 49, 50, 51, 52, 53, 54, 55, 56, 57, 58, 59, 60, 61] .leaf .leaf)) .leaf))))) .leaf))))
theorem ok88 : fnOk Tryz.prog Tryz.f88.ntmps Tryz.f88 sk88 = true := by kernel_rfl
theorem eq88 (limits0 : Sl) (sold1 : Sl) (ask2 : Value) (K : Value → World → Prop) (w : World) : fnF Tryz.prog cl Tryz.f88 sk88 [.slice limits0.a limits0.len limits0.cap, .slice sold1.a sold1.len sold1.cap, ask2] K w = B88 limits0 sold1 ask2 K w := by kernel_rfl
theorem call88 (limits0 : Sl) (sold1 : Sl) (ask2 : Value) (K : Value → World → Prop) (w : World) (h : B88 limits0 sold1 ask2 K w) : Gets Tryz.prog 88 #[.slice limits0.a limits0.len limits0.cap, .slice sold1.a sold1.len sold1.cap, ask2] w K :=
  calls_of (sk := sk88) cl_ok mixed Tryz.func88 ok88 (args := [.slice limits0.a limits0.len limits0.cap, .slice sold1.a sold1.len sold1.cap, ask2]) (Nat.le_of_ble_eq_true (by kernel_rfl)) (by rw [eq88]; exact h)

/-- jetway/nest.Right. -/
def B36 (limits0 : Sl) (sold1 : Sl) (K : Value → World → Prop) (w : World) : Prop :=
  Calls Tryz.prog 88 #[.slice limits0.a limits0.len limits0.cap, .slice sold1.a sold1.len sold1.cap, .func (.func 89) #[] #[]] w fun e w_1 =>
  ∃ t7 : Bool, (e = .returned (.bool t7)) ∧
  K (.bool t7) w_1

def sk36 : Sk := .leaf
theorem ok36 : fnOk Tryz.prog Tryz.f36.ntmps Tryz.f36 sk36 = true := by kernel_rfl
theorem eq36 (limits0 : Sl) (sold1 : Sl) (K : Value → World → Prop) (w : World) : fnF Tryz.prog cl Tryz.f36 sk36 [.slice limits0.a limits0.len limits0.cap, .slice sold1.a sold1.len sold1.cap] K w = B36 limits0 sold1 K w := by kernel_rfl
theorem call36 (limits0 : Sl) (sold1 : Sl) (K : Value → World → Prop) (w : World) (h : B36 limits0 sold1 K w) : Gets Tryz.prog 36 #[.slice limits0.a limits0.len limits0.cap, .slice sold1.a sold1.len sold1.cap] w K :=
  calls_of (sk := sk36) cl_ok mixed Tryz.func36 ok36 (args := [.slice limits0.a limits0.len limits0.cap, .slice sold1.a sold1.len sold1.cap]) (Nat.le_of_ble_eq_true (by kernel_rfl)) (by rw [eq36]; exact h)

/-- jetway/nest.Right$1. -/
def B89 (p0 : Int) (p1 : Int) (K : Value → World → Prop) (w : World) : Prop :=
  K (.tuple #[]) w

def sk89 : Sk := .leaf
theorem ok89 : fnOk Tryz.prog Tryz.f89.ntmps Tryz.f89 sk89 = true := by kernel_rfl
theorem eq89 (p0 : Int) (p1 : Int) (K : Value → World → Prop) (w : World) : fnF Tryz.prog cl Tryz.f89 sk89 [.int .i64 p0, .int .i64 p1] K w = B89 p0 p1 K w := by kernel_rfl
theorem call89 (p0 : Int) (p1 : Int) (K : Value → World → Prop) (w : World) (h : B89 p0 p1 K w) : Gets Tryz.prog 89 #[.int .i64 p0, .int .i64 p1] w K :=
  calls_of (sk := sk89) cl_ok mixed Tryz.func89 ok89 (args := [.int .i64 p0, .int .i64 p1]) (Nat.le_of_ble_eq_true (by kernel_rfl)) (by rw [eq89]; exact h)

/-- jetway/nest.Left. -/
def B79 (limits0 : Sl) (sold1 : Sl) (class2 : Int) (K : Value → World → Prop) (w : World) : Prop :=
  New (.cells #[.int .i64 class2] 3 (0, 0)) (fun b_class5 w_1 =>
  New (.cells #[.int .i64 0] 3 (0, 0)) (fun b_least8 w_2 =>
  ∃ w_3 : World, ((Instr.storeAt 3 (.pointer ((some ⟨b_least8, 0, none⟩))) (.int .i64 10000)).run Tryz.prog w_2 = .ok () w_3) ∧
  Calls Tryz.prog 88 #[.slice limits0.a limits0.len limits0.cap, .slice sold1.a sold1.len sold1.cap, .func (.func 115) #[] #[.pointer ((some ⟨b_class5, 0, none⟩)), .pointer ((some ⟨b_least8, 0, none⟩))]] w_3 fun e w_4 =>
  ∃ t13 : Bool, (e = .returned (.bool t13)) ∧
  Br (!t13)
   (K (.tuple #[.int .i64 0, .int .i64 1]) w_4)
   (∃ t17 : Int, (At (fun w' => w' = w_4) ⟨b_class5, 0, none⟩ [.int .i64 t17]) ∧
    Br (decide (t17 < 0))
     (K (.tuple #[.int .i64 0, .int .i64 1]) w_4)
     (∃ t21 : Int, (At (fun w' => w' = w_4) ⟨b_class5, 0, none⟩ [.int .i64 t21]) ∧
      Br (decide (t21 ≥ (↑limits0.len : Int)))
       (K (.tuple #[.int .i64 0, .int .i64 1]) w_4)
       (∃ t26 : Int, (At (fun w' => w' = w_4) ⟨b_least8, 0, none⟩ [.int .i64 t26]) ∧
        K (.tuple #[.int .i64 t26, .int .i64 0]) w_4)))) w_1) w

def sk79 : Sk := .leaf
theorem ok79 : fnOk Tryz.prog Tryz.f79.ntmps Tryz.f79 sk79 = true := by kernel_rfl
theorem eq79 (limits0 : Sl) (sold1 : Sl) (class2 : Int) (K : Value → World → Prop) (w : World) : fnF Tryz.prog cl Tryz.f79 sk79 [.slice limits0.a limits0.len limits0.cap, .slice sold1.a sold1.len sold1.cap, .int .i64 class2] K w = B79 limits0 sold1 class2 K w := by kernel_rfl
theorem call79 (limits0 : Sl) (sold1 : Sl) (class2 : Int) (K : Value → World → Prop) (w : World) (h : B79 limits0 sold1 class2 K w) : Gets Tryz.prog 79 #[.slice limits0.a limits0.len limits0.cap, .slice sold1.a sold1.len sold1.cap, .int .i64 class2] w K :=
  calls_of (sk := sk79) cl_ok mixed Tryz.func79 ok79 (args := [.slice limits0.a limits0.len limits0.cap, .slice sold1.a sold1.len sold1.cap, .int .i64 class2]) (Nat.le_of_ble_eq_true (by kernel_rfl)) (by rw [eq79]; exact h)

/-- jetway/nest.Left$1. -/
def B115 (k0 : Int) (left1 : Int) (c2 : Option Addr) (c3 : Option Addr) (K : Value → World → Prop) (w : World) : Prop :=
  NilP c2 fun a_t7 =>
  ∃ t7 : Int, (At (fun w' => w' = w) a_t7 [.int .i64 t7]) ∧
  Br (decide (k0 ≤ t7))
   (NilP c3 fun a_t9 =>
    ∃ t9 : Int, (At (fun w' => w' = w) a_t9 [.int .i64 t9]) ∧
    ∃ w_1 : World, ((Instr.storeAt 3 (.pointer c3) (.int .i64 (if left1 < t9 then left1 else t9))).run Tryz.prog w = .ok () w_1) ∧
    K (.tuple #[]) w_1)
   (K (.tuple #[]) w)

def sk115 : Sk := .leaf
theorem ok115 : fnOk Tryz.prog Tryz.f115.ntmps Tryz.f115 sk115 = true := by kernel_rfl
theorem eq115 (k0 : Int) (left1 : Int) (c2 : Option Addr) (c3 : Option Addr) (K : Value → World → Prop) (w : World) : fnF Tryz.prog cl Tryz.f115 sk115 [.int .i64 k0, .int .i64 left1, .pointer c2, .pointer c3] K w = B115 k0 left1 c2 c3 K w := by kernel_rfl
theorem call115 (k0 : Int) (left1 : Int) (c2 : Option Addr) (c3 : Option Addr) (K : Value → World → Prop) (w : World) (h : B115 k0 left1 c2 c3 K w) : Gets Tryz.prog 115 #[.int .i64 k0, .int .i64 left1, .pointer c2, .pointer c3] w K :=
  calls_of (sk := sk115) cl_ok mixed Tryz.func115 ok115 (args := [.int .i64 k0, .int .i64 left1, .pointer c2, .pointer c3]) (Nat.le_of_ble_eq_true (by kernel_rfl)) (by rw [eq115]; exact h)

/-- jetway/nest.Sell. -/
def B77 (limits0 : Sl) (sold1 : Sl) (class2 : Int) (many3 : Int) (K : Value → World → Prop) (w : World) : Prop :=
  Calls Tryz.prog 79 #[.slice limits0.a limits0.len limits0.cap, .slice sold1.a sold1.len sold1.cap, .int .i64 class2] w fun e w_1 =>
  ∃ t16 : Int, ∃ t16_1 : Int, (e = .returned (.tuple #[.int .i64 t16, .int .i64 t16_1])) ∧
  Br (t16_1 != 0)
   (K (.tuple #[.slice none 0 0, .int .i64 1]) w_1)
   (Br (decide (many3 < 1))
     (K (.tuple #[.slice none 0 0, .int .i64 1]) w_1)
     (Br (decide (many3 > 10000))
       (K (.tuple #[.slice none 0 0, .int .i64 1]) w_1)
       (Br (decide (many3 > t16))
         (K (.tuple #[.slice none 0 0, .int .i64 3]) w_1)
         (Calls Tryz.prog 114 #[.slice sold1.a sold1.len sold1.cap, .int .i64 class2, .int .i64 many3] w_1 fun e_1 w_2 =>
          ∃ t37 : Sl, (e_1 = .returned (.slice t37.a t37.len t37.cap)) ∧
          K (.tuple #[.slice t37.a t37.len t37.cap, .int .i64 0]) w_2))))

def sk77 : Sk := .leaf
theorem ok77 : fnOk Tryz.prog Tryz.f77.ntmps Tryz.f77 sk77 = true := by kernel_rfl
theorem eq77 (limits0 : Sl) (sold1 : Sl) (class2 : Int) (many3 : Int) (K : Value → World → Prop) (w : World) : fnF Tryz.prog cl Tryz.f77 sk77 [.slice limits0.a limits0.len limits0.cap, .slice sold1.a sold1.len sold1.cap, .int .i64 class2, .int .i64 many3] K w = B77 limits0 sold1 class2 many3 K w := by kernel_rfl
theorem call77 (limits0 : Sl) (sold1 : Sl) (class2 : Int) (many3 : Int) (K : Value → World → Prop) (w : World) (h : B77 limits0 sold1 class2 many3 K w) : Gets Tryz.prog 77 #[.slice limits0.a limits0.len limits0.cap, .slice sold1.a sold1.len sold1.cap, .int .i64 class2, .int .i64 many3] w K :=
  calls_of (sk := sk77) cl_ok mixed Tryz.func77 ok77 (args := [.slice limits0.a limits0.len limits0.cap, .slice sold1.a sold1.len sold1.cap, .int .i64 class2, .int .i64 many3]) (Nat.le_of_ble_eq_true (by kernel_rfl)) (by rw [eq77]; exact h)

/-- jetway/nest.Back. -/
def B78 (limits0 : Sl) (sold1 : Sl) (class2 : Int) (many3 : Int) (K : Value → World → Prop) (w : World) : Prop :=
  Calls Tryz.prog 79 #[.slice limits0.a limits0.len limits0.cap, .slice sold1.a sold1.len sold1.cap, .int .i64 class2] w fun e w_1 =>
  ∃ t16 : Int, ∃ t16_1 : Int, (e = .returned (.tuple #[.int .i64 t16, .int .i64 t16_1])) ∧
  Br (t16_1 != 0)
   (K (.tuple #[.slice none 0 0, .int .i64 1]) w_1)
   (Br (decide (many3 < 1))
     (K (.tuple #[.slice none 0 0, .int .i64 1]) w_1)
     (Rng class2 sold1.len (NilP sold1.a fun a_t29 =>
      ∃ t30 : Int, (At (fun w' => w' = w_1) (Addr.add a_t29 class2.toNat) [.int .i64 t30]) ∧
      Br (decide (many3 > t30))
       (K (.tuple #[.slice none 0 0, .int .i64 1]) w_1)
       (Calls Tryz.prog 114 #[.slice sold1.a sold1.len sold1.cap, .int .i64 class2, .int .i64 (IntKind.i64.wrap (0 - many3))] w_1 fun e_1 w_2 =>
        ∃ t37 : Sl, (e_1 = .returned (.slice t37.a t37.len t37.cap)) ∧
        K (.tuple #[.slice t37.a t37.len t37.cap, .int .i64 0]) w_2))))

def sk78 : Sk := .leaf
theorem ok78 : fnOk Tryz.prog Tryz.f78.ntmps Tryz.f78 sk78 = true := by kernel_rfl
theorem eq78 (limits0 : Sl) (sold1 : Sl) (class2 : Int) (many3 : Int) (K : Value → World → Prop) (w : World) : fnF Tryz.prog cl Tryz.f78 sk78 [.slice limits0.a limits0.len limits0.cap, .slice sold1.a sold1.len sold1.cap, .int .i64 class2, .int .i64 many3] K w = B78 limits0 sold1 class2 many3 K w := by kernel_rfl
theorem call78 (limits0 : Sl) (sold1 : Sl) (class2 : Int) (many3 : Int) (K : Value → World → Prop) (w : World) (h : B78 limits0 sold1 class2 many3 K w) : Gets Tryz.prog 78 #[.slice limits0.a limits0.len limits0.cap, .slice sold1.a sold1.len sold1.cap, .int .i64 class2, .int .i64 many3] w K :=
  calls_of (sk := sk78) cl_ok mixed Tryz.func78 ok78 (args := [.slice limits0.a limits0.len limits0.cap, .slice sold1.a sold1.len sold1.cap, .int .i64 class2, .int .i64 many3]) (Nat.le_of_ble_eq_true (by kernel_rfl)) (by rw [eq78]; exact h)

/-- jetway/nest.more. -/
def B114 (sold0 : Sl) (class1 : Int) (many2 : Int) (K : Value → World → Prop) (w : World) : Prop :=
  Calls Tryz.prog 59 #[.slice sold0.a sold0.len sold0.cap] w fun e w_1 =>
  ∃ t9 : Sl, (e = .returned (.slice t9.a t9.len t9.cap)) ∧
  Rng class1 t9.len (NilP t9.a fun a_t12 =>
  ∃ t13 : Int, (At (fun w' => w' = w_1) (Addr.add a_t12 class1.toNat) [.int .i64 t13]) ∧
  Rng class1 t9.len (NilP t9.a fun a_t16 =>
  ∃ w_2 : World, ((Instr.storeAt 3 (.pointer ((some (Addr.add a_t16 class1.toNat)))) (.int .i64 (IntKind.i64.wrap (t13 + many2)))).run Tryz.prog w_1 = .ok () w_2) ∧
  K (.slice t9.a t9.len t9.cap) w_2))

def sk114 : Sk := .leaf
theorem ok114 : fnOk Tryz.prog Tryz.f114.ntmps Tryz.f114 sk114 = true := by kernel_rfl
theorem eq114 (sold0 : Sl) (class1 : Int) (many2 : Int) (K : Value → World → Prop) (w : World) : fnF Tryz.prog cl Tryz.f114 sk114 [.slice sold0.a sold0.len sold0.cap, .int .i64 class1, .int .i64 many2] K w = B114 sold0 class1 many2 K w := by kernel_rfl
theorem call114 (sold0 : Sl) (class1 : Int) (many2 : Int) (K : Value → World → Prop) (w : World) (h : B114 sold0 class1 many2 K w) : Gets Tryz.prog 114 #[.slice sold0.a sold0.len sold0.cap, .int .i64 class1, .int .i64 many2] w K :=
  calls_of (sk := sk114) cl_ok mixed Tryz.func114 ok114 (args := [.slice sold0.a sold0.len sold0.cap, .int .i64 class1, .int .i64 many2]) (Nat.le_of_ble_eq_true (by kernel_rfl)) (by rw [eq114]; exact h)

/-- jetway/nest.Limits. -/
def B95 (seats0 : Int) (parts1 : Sl) (K : Value → World → Prop) (w : World) : Prop :=
  ∃ (J : World → Prop), (Calls Tryz.prog 118 #[.int .i64 seats0] w fun e w_1 =>
    ∃ t12 : Bool, (e = .returned (.bool t12)) ∧
    Br (!t12)
     (K (.tuple #[.slice none 0 0, .int .i64 1]) w_1)
     (Br (decide ((↑parts1.len : Int) < 1))
       (K (.tuple #[.slice none 0 0, .int .i64 1]) w_1)
       (Br (decide ((↑parts1.len : Int) > 8))
         (K (.tuple #[.slice none 0 0, .int .i64 1]) w_1)
         (J  w_1)))) ∧
  ∀ (z : Env)  (w_2 : World), J  w_2 →
  New (.cells #[.int .i64 seats0] 3 (0, 0)) (fun b_t25 w_3 =>
  ((0 : Int) ≤ 1) ∧
  ((1 : Int) ≤ (↑parts1.len : Int)) ∧
  ∃ (I : Sl → Int → World → Prop) (μ : Sl → Int → World → Nat), (I ⟨(some ⟨b_t25, 0, none⟩), 1, 1⟩ 0 w_3) ∧ ∀ (z_1 : Env) (out6 : Sl) (t29 : Int) (w_4 : World), I out6 t29 w_4 →
  Br (decide (t29 < (↑(parts1.len - Int.toNat 1) : Int)))
   (Rng t29 (parts1.len - Int.toNat 1) (NilP (cutA parts1.a (Int.toNat 1) parts1.cap 1) fun a_t32 =>
    ∃ t33 : Value, (At (fun w' => w' = w_4) (Addr.add a_t32 t29.toNat) [t33]) ∧
    Calls Tryz.prog 120 #[t33, .int .i64 seats0] w_4 fun e_1 w_5 =>
    ∃ t37 : Int, ∃ t37_1 : Int, (e_1 = .returned (.tuple #[.int .i64 t37, .int .i64 t37_1])) ∧
    Rng t29 out6.len (NilP out6.a fun a_t44 =>
    ∃ t45 : Int, (At (fun w' => w' = w_5) (Addr.add a_t44 t29.toNat) [.int .i64 t45]) ∧
    New (.cells #[.int .i64 (if t45 < t37 then t45 else t37)] 3 (0, 0)) (fun b_t47 w_6 =>
    ∃ w_7 : World, ∃ t48 : Sl, ((Builtin.append_ #[33, 33] 33 #[.slice out6.a out6.len out6.cap, .slice ((some ⟨b_t47, 0, none⟩)) 1 1]).run Tryz.prog w_6 = .ok (.slice t48.a t48.len t48.cap) w_7) ∧
    (I t48 (IntKind.i64.wrap (t29 + 1)) w_7) ∧ μ t48 (IntKind.i64.wrap (t29 + 1)) w_7 < μ out6 t29 w_4) w_5)))
   (K (.tuple #[.slice out6.a out6.len out6.cap, .int .i64 0]) w_4)) w_2

def sk95 : Sk := (.seq .leaf (.cut [] [] [4, 5, 11, 12, 13, 14, 15, 16, 17, 18, 19, 20, 21, 22, 23] .leaf (.seq .leaf (.seq (.seq .leaf (.block (.loop [6, 29] [.sl, (.int .i64)] [6, 7, 8, 9, 10, 29, 30, 31, 32, 33, 34, 35, 36, 37, 38, 39, 40, 41, 42, 43, 44, 45, 46, 47, 48, 49] .leaf))) .leaf))))
theorem ok95 : fnOk Tryz.prog Tryz.f95.ntmps Tryz.f95 sk95 = true := by kernel_rfl
theorem eq95 (seats0 : Int) (parts1 : Sl) (K : Value → World → Prop) (w : World) : fnF Tryz.prog cl Tryz.f95 sk95 [.int .i64 seats0, .slice parts1.a parts1.len parts1.cap] K w = B95 seats0 parts1 K w := by kernel_rfl
theorem call95 (seats0 : Int) (parts1 : Sl) (K : Value → World → Prop) (w : World) (h : B95 seats0 parts1 K w) : Gets Tryz.prog 95 #[.int .i64 seats0, .slice parts1.a parts1.len parts1.cap] w K :=
  calls_of (sk := sk95) cl_ok mixed Tryz.func95 ok95 (args := [.int .i64 seats0, .slice parts1.a parts1.len parts1.cap]) (Nat.le_of_ble_eq_true (by kernel_rfl)) (by rw [eq95]; exact h)

/-- jetway/fare.Level. -/
def B120 (part0 : Value) (seats1 : Int) (K : Value → World → Prop) (w : World) : Prop :=
  ∃ (J : Bool → World → Prop), (Br (decide (seats1 < 0))
     (J true w)
     (J (decide (seats1 > 10000)) w)) ∧
  ∀ (z : Env) (t6 : Bool) (w_1 : World), J t6 w_1 →
  Br t6
   (K (.tuple #[.int .i64 0, .int .i64 1]) w_1)
   (∃ t15 : Bool, (∀ w', (fun w' => w' = w_1) w' → ((do eqGuard BinOp.gtr 66 (Operand.tmp 14) (Operand.const (Value.float FloatKind.f64 0)) part0 (Value.float FloatKind.f64 0); binOp BinOp.gtr 66 part0 (Value.float FloatKind.f64 0) : Sem Value)).run Tryz.prog w' = .ok (.bool t15) w') ∧
    Br (!t15)
     (K (.tuple #[.int .i64 0, .int .i64 0]) w_1)
     (∃ t19 : Bool, (∀ w', (fun w' => w' = w_1) w' → ((do eqGuard BinOp.geq 66 (Operand.tmp 18) (Operand.const (Value.float FloatKind.f64 4607182418800017408)) part0 (Value.float FloatKind.f64 4607182418800017408); binOp BinOp.geq 66 part0 (Value.float FloatKind.f64 4607182418800017408) : Sem Value)).run Tryz.prog w' = .ok (.bool t19) w') ∧
      Br t19
       (K (.tuple #[.int .i64 seats1, .int .i64 0]) w_1)
       (∃ w_2 : World, ∃ t23 : Value, ((convert 3 66 (.int .i64 seats1)).run Tryz.prog w_1 = .ok (t23) w_2) ∧
        ∃ t24 : Value, (∀ w', (fun w' => w' = w_2) w' → ((do eqGuard BinOp.mul 66 (Operand.tmp 21) (Operand.tmp 23) part0 t23; binOp BinOp.mul 66 part0 t23 : Sem Value)).run Tryz.prog w' = .ok (t24) w') ∧
        Calls Tryz.prog 130 #[t24] w_2 fun e w_3 =>
        ∃ t25 : Value, (e = .returned (t25)) ∧
        ∃ t26 : Int, (∀ w', (fun w' => w' = w_3) w' → ((convert 66 3 t25)).run Tryz.prog w' = .ok (.int .i64 t26) w') ∧
        K (.tuple #[.int .i64 t26, .int .i64 0]) w_3)))

def sk120 : Sk := (.seq .leaf (.seq (.block (.cut [6] [.bool] [6, 7, 8, 9, 10, 11, 12] .leaf .leaf)) .leaf))
theorem ok120 : fnOk Tryz.prog Tryz.f120.ntmps Tryz.f120 sk120 = true := by kernel_rfl
theorem eq120 (part0 : Value) (seats1 : Int) (K : Value → World → Prop) (w : World) : fnF Tryz.prog cl Tryz.f120 sk120 [part0, .int .i64 seats1] K w = B120 part0 seats1 K w := by kernel_rfl
theorem call120 (part0 : Value) (seats1 : Int) (K : Value → World → Prop) (w : World) (h : B120 part0 seats1 K w) : Gets Tryz.prog 120 #[part0, .int .i64 seats1] w K :=
  calls_of (sk := sk120) cl_ok mixed Tryz.func120 ok120 (args := [part0, .int .i64 seats1]) (Nat.le_of_ble_eq_true (by kernel_rfl)) (by rw [eq120]; exact h)

/-- math.Floor. -/
def B130 (x0 : Value) (K : Value → World → Prop) (w : World) : Prop :=
  Ext Tryz.prog 143 #[x0] w fun e w_1 =>
  ∃ t4 : Value, (e = .returned (t4)) ∧
  K t4 w_1

def sk130 : Sk := .leaf
theorem ok130 : fnOk Tryz.prog Tryz.f130.ntmps Tryz.f130 sk130 = true := by kernel_rfl
theorem eq130 (x0 : Value) (K : Value → World → Prop) (w : World) : fnF Tryz.prog cl Tryz.f130 sk130 [x0] K w = B130 x0 K w := by kernel_rfl
theorem call130 (x0 : Value) (K : Value → World → Prop) (w : World) (h : B130 x0 K w) : Gets Tryz.prog 130 #[x0] w K :=
  calls_of (sk := sk130) cl_ok mixed Tryz.func130 ok130 (args := [x0]) (Nat.le_of_ble_eq_true (by kernel_rfl)) (by rw [eq130]; exact h)

/-- strconv.Itoa. -/
def B128 (i0 : Int) (K : Value → World → Prop) (w : World) : Prop :=
  Calls Tryz.prog 142 #[.int .i64 i0] w fun e w_1 =>
  ∃ t4 : ByteArray, (e = .returned (.string t4)) ∧
  K (.string t4) w_1

def sk128 : Sk := .leaf
theorem ok128 : fnOk Tryz.prog Tryz.f128.ntmps Tryz.f128 sk128 = true := by kernel_rfl
theorem eq128 (i0 : Int) (K : Value → World → Prop) (w : World) : fnF Tryz.prog cl Tryz.f128 sk128 [.int .i64 i0] K w = B128 i0 K w := by kernel_rfl
theorem call128 (i0 : Int) (K : Value → World → Prop) (w : World) (h : B128 i0 K w) : Gets Tryz.prog 128 #[.int .i64 i0] w K :=
  calls_of (sk := sk128) cl_ok mixed Tryz.func128 ok128 (args := [.int .i64 i0]) (Nat.le_of_ble_eq_true (by kernel_rfl)) (by rw [eq128]; exact h)

end Go.Proofs.YtaacfjdknlglhaaGreatDoor
