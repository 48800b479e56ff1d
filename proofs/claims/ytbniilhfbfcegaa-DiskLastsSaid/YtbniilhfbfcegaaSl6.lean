/- SL, part 6: maps with keys that are strings or integers: lookup, update, delete. No condition. -/
import Derived.Test.YtbniilhfbfcegaaSl5
import GoSem.Instr.MapUpdate
import GoSem.Builtin.Delete
import Derived.MapKept
namespace Go.VC

/-- A kind of key. -/
class KeyK (α : Type) [BEq α] where
  enc : α → Value
  desc : TypeDesc
  same : ∀ a b, Instr.sameNow desc (enc a) (enc b) = some (a == b)
  bits : ∀ a, Instr.sameBits 10000 (enc a) (enc a) = true
  eq : ∀ a b : α, (a == b) = true → a = b
  check : ∀ (P : Program) (em : Bool) (K : TypeId) (a : α) (w : World), P.underlying K = some desc → (Instr.checkKey em 10000 K (enc a)).run P w = .ok () w

instance : KeyK ByteArray where
  enc := Value.string
  desc := .string
  same a b := rfl
  bits a := by
    have : ∀ n, Instr.sameBits n (.string a) (.string a) = (a == a) := fun n => by cases n <;> rfl
    rw [this]; exact (MapKept.bytes_beq a a).2 rfl
  eq a b h := (MapKept.bytes_beq a b).1 h
  check P em K a w h := by
    show (Instr.checkKey em (9999 + 1) K (.string a)).run P w = _
    unfold Instr.checkKey
    simp [run_underlying h]

variable {α : Type} [BEq α] [KeyK α]

/-- An entry: its key, its value, when it was born. -/
abbrev En (α : Type) := α × Value × Nat
def mkE (e : En α) : MapEntry := { key := KeyK.enc e.1, val := e.2.1, born := e.2.2 }

/-- The entry of a key. -/
def getE (k : α) : List (En α) → Option Value
  | [] => none
  | e :: es => if k == e.1 then some e.2.1 else getE k es
def setE (k : α) (v : Value) : List (En α) → List (En α)
  | [] => []
  | e :: es => if k == e.1 then (e.1, v, e.2.2) :: es else e :: setE k v es
def delE (k : α) : List (En α) → List (En α)
  | [] => []
  | e :: es => if k == e.1 then es else e :: delE k es
def hasE (k : α) (es : List (En α)) : Bool := (getE k es).isSome
def putE (k : α) (v : Value) (es : List (En α)) (clock : Nat) : List (En α) := if hasE k es then setE k v es else es ++ [(k, v, clock)]

def idxE (k : α) : List (En α) → Nat → Option (Nat × Value)
  | [], _ => none
  | e :: es, i => if k == e.1 then some (i, e.2.1) else idxE k es (i + 1)

theorem findNow_eq (k : α) : ∀ (es : List (En α)) (i : Nat), Instr.findNow (KeyK.desc α) (KeyK.enc k) (es.map mkE) i = some (idxE k es i)
  | [], _ => rfl
  | e :: es, i => by
    rw [List.map_cons, Instr.findNow, mkE, KeyK.same, idxE]
    cases h : (k == e.1)
    · simpa using findNow_eq k es (i + 1)
    · rfl

omit [KeyK α] in
theorem idxE_val (k : α) : ∀ (es : List (En α)) (i : Nat), (idxE k es i).map (·.2) = getE k es
  | [], _ => rfl
  | e :: es, i => by
    rw [idxE, getE]
    cases h : (k == e.1)
    · exact idxE_val k es (i + 1)
    · rfl

theorem run_findKey {P : Program} {K : TypeId} (hK : P.underlying K = some (KeyK.desc α)) (k : α) (es : List (En α)) (w : World) :
    (Instr.findKey K (KeyK.enc k) (es.map mkE)).run P w = .ok (idxE k es 0) w := by
  unfold Instr.findKey
  simp [run_underlying hK, findNow_eq]

theorem run_keyThatStays {P : Program} (k : α) (w : World) : (Instr.keyThatStays (KeyK.enc k) (KeyK.enc k)).run P w = .ok (KeyK.enc k) w := by
  unfold Instr.keyThatStays
  rw [if_pos (KeyK.bits k)]; rfl

theorem lookup_run {P : Program} {T K E : TypeId} (hT : P.underlying T = some (.map K E)) (hK : P.underlying K = some (KeyK.desc α)) {z : Value} (hz : ∀ w, (zeroValue E).run P w = .ok z w)
    {w : World} {m clock : Nat} {es : List (En α)} (hm : w.heap[m]? = some (.map (es.map mkE).toArray clock)) (k : α) (c : Bool) :
    (Instr.lookup T (.map (some m)) (KeyK.enc k) c).run P w = .ok (if c then .tuple #[(getE k es).getD z, .bool (hasE k es)] else (getE k es).getD z) w := by
  have hv := idxE_val k es 0
  have hck := KeyK.check P (es.map mkE).toArray.isEmpty K k w hK
  have hfk := run_findKey hK k es w
  unfold Instr.lookup
  cases hi : idxE k es 0 with
  | none =>
    rw [hi] at hv hfk
    simp only [Option.map_none] at hv
    simp only [Sem.run_bind, run_underlying hT, Result.andThen, MapKept.run_getObj_map hm, Sem.run_pure, hck, hfk, hz, hasE, ← hv]
    rfl
  | some p =>
    rw [hi] at hv hfk
    simp only [Option.map_some] at hv
    simp only [Sem.run_bind, run_underlying hT, Result.andThen, MapKept.run_getObj_map hm, Sem.run_pure, hck, hfk, hasE, ← hv]
    rfl

omit [KeyK α] in
theorem idxE_set (k : α) : ∀ (es : List (En α)) (i : Nat), (∀ p, idxE k es i = some p → i ≤ p.1)
  | [], i, p, h => by cases h
  | e :: es, i, p, h => by
    rw [idxE] at h
    cases hk : (k == e.1)
    · rw [hk] at h; have := idxE_set k es (i + 1) p (by simpa using h); omega
    · rw [hk] at h; simp at h; subst h; exact Nat.le_refl _

/-- What an update makes of the entries. -/
theorem modify_eq (k : α) (v : Value) : ∀ (es : List (En α)) (i : Nat) (p : Nat × Value), idxE k es i = some p →
    (es.map mkE).modify (p.1 - i) (fun e => { e with key := KeyK.enc k, val := v }) = (setE k v es).map mkE
  | [], _, _, h => by cases h
  | e :: es, i, p, h => by
    have hle := idxE_set k (e :: es) i p h
    rw [idxE] at h
    cases hk : (k == e.1)
    · rw [hk] at h
      have h' : idxE k es (i + 1) = some p := by simpa using h
      have hle2 := idxE_set k es (i + 1) p h'
      obtain ⟨j, hj⟩ : ∃ j, p.1 - i = j + 1 := ⟨p.1 - (i + 1), by omega⟩
      have ih := modify_eq k v es (i + 1) p h'
      rw [show p.1 - (i + 1) = j by omega] at ih
      rw [hj, setE, hk]
      simp only [List.map_cons, List.modify_succ_cons, Bool.false_eq_true, if_false, List.cons.injEq, true_and]
      exact ih
    · rw [hk] at h
      simp at h; subst h
      have := KeyK.eq _ _ hk
      subst this
      rw [setE, hk]
      simp [mkE]

theorem erase_eq (k : α) : ∀ (es : List (En α)) (i : Nat) (p : Nat × Value), idxE k es i = some p → (es.map mkE).eraseIdx (p.1 - i) = (delE k es).map mkE
  | [], _, _, h => by cases h
  | e :: es, i, p, h => by
    rw [idxE] at h
    cases hk : (k == e.1)
    · rw [hk] at h
      have h' : idxE k es (i + 1) = some p := by simpa using h
      have hle2 := idxE_set k es (i + 1) p h'
      obtain ⟨j, hj⟩ : ∃ j, p.1 - i = j + 1 := ⟨p.1 - (i + 1), by omega⟩
      have ih := erase_eq k es (i + 1) p h'
      rw [show p.1 - (i + 1) = j by omega] at ih
      rw [hj, delE, hk]
      simp only [List.map_cons, List.eraseIdx_cons_succ, Bool.false_eq_true, if_false, List.cons.injEq, true_and]
      exact ih
    · rw [hk] at h
      simp at h; subst h
      rw [delE, hk]; simp

omit [KeyK α] in
theorem idxE_none (k : α) (es : List (En α)) (i : Nat) : idxE k es i = none ↔ hasE k es = false := by
  unfold hasE; rw [← idxE_val k es i]; cases idxE k es i <;> simp

omit [KeyK α] in
theorem delE_none (k : α) : ∀ (es : List (En α)), hasE k es = false → delE k es = es
  | [], _ => rfl
  | e :: es, h => by
    unfold hasE getE at h
    cases hk : (k == e.1)
    · rw [hk] at h
      rw [delE, hk]
      simp only [Bool.false_eq_true, if_false, List.cons.injEq, true_and]
      exact delE_none k es (by unfold hasE; simpa using h)
    · rw [hk] at h; simp at h

theorem idxE_lt (k : α) : ∀ (es : List (En α)) (i : Nat) (p : Nat × Value), idxE k es i = some p → p.1 < i + es.length ∧ ∃ e, (es.map mkE)[p.1 - i]? = some e ∧ e.key = KeyK.enc k
  | [], _, _, h => by cases h
  | e :: es, i, p, h => by
    rw [idxE] at h
    cases hk : (k == e.1)
    · rw [hk] at h
      have h' : idxE k es (i + 1) = some p := by simpa using h
      have hle2 := idxE_set k es (i + 1) p h'
      obtain ⟨h1, e', h2, h3⟩ := idxE_lt k es (i + 1) p h'
      refine ⟨by simp only [List.length_cons]; omega, e', ?_, h3⟩
      obtain ⟨j, hj⟩ : ∃ j, p.1 - i = j + 1 := ⟨p.1 - (i + 1), by omega⟩
      rw [hj, List.map_cons, List.getElem?_cons_succ, show j = p.1 - (i + 1) by omega]
      exact h2
    · rw [hk] at h
      simp at h; subst h
      refine ⟨by simp, mkE e, by simp, ?_⟩
      rw [KeyK.eq _ _ hk]; rfl

theorem update_run {P : Program} {T K E : TypeId} (hT : P.underlying T = some (.map K E)) (hK : P.underlying K = some (KeyK.desc α))
    {w : World} {m clock : Nat} {es : List (En α)} (hm : w.heap[m]? = some (.map (es.map mkE).toArray clock)) (k : α) (v : Value) :
    (Instr.mapUpdate T (.map (some m)) (KeyK.enc k) v).run P w = .ok () (w.setBlock m (.map ((putE k v es clock).map mkE).toArray (if hasE k es then clock else clock + 1))) := by
  have hck := KeyK.check P false K k w hK
  have hfk := run_findKey hK k es w
  unfold Instr.mapUpdate
  cases hi : idxE k es 0 with
  | none =>
    have hn := (idxE_none k es 0).1 hi
    rw [hi] at hfk
    simp only [Sem.run_bind, run_underlying hT, Result.andThen, MapKept.run_getObj_map hm, hck, hfk, MapKept.run_setObj_map _ hm, putE, hn, World.setBlock, Bool.false_eq_true, if_false]
    simp [mkE]
  | some p =>
    have hh : hasE k es = true := by
      cases h : hasE k es
      · rw [(idxE_none k es 0).2 h] at hi; cases hi
      · rfl
    obtain ⟨_, e, he, hek⟩ := idxE_lt k es 0 p hi
    have hmod := modify_eq k v es 0 p hi
    rw [Nat.sub_zero] at he hmod
    rw [hi] at hfk
    have hkey : (((es.map mkE).toArray[p.1]?).map (·.key)).getD (KeyK.enc k) = KeyK.enc k := by
      have : (es.map mkE).toArray[p.1]? = some e := by simpa using he
      rw [this]; exact hek
    simp only [Sem.run_bind, run_underlying hT, Result.andThen, MapKept.run_getObj_map hm, hck, hfk, hkey, run_keyThatStays, MapKept.run_setObj_map _ hm, putE, hh, World.setBlock, if_true]
    congr 4
    apply Array.ext'
    rw [← hmod]
    simp

theorem delete_run {P : Program} {T K E ty t2 : TypeId} (hT : P.underlying T = some (.map K E)) (hK : P.underlying K = some (KeyK.desc α))
    {w : World} {m clock : Nat} {es : List (En α)} (hm : w.heap[m]? = some (.map (es.map mkE).toArray clock)) (k : α) :
    (Builtin.delete_ #[T, t2] ty #[.map (some m), KeyK.enc k]).run P w = .ok (.tuple #[]) (w.setBlock m (.map ((delE k es).map mkE).toArray clock)) := by
  have hck := KeyK.check P (es.map mkE).toArray.isEmpty K k w hK
  have hfk := run_findKey hK k es w
  have h0 : (#[T, t2] : Array TypeId)[0]? = some T := rfl
  have h1 : (#[Value.map (some m), KeyK.enc k] : Array Value)[0]? = some (.map (some m)) := rfl
  have h2 : (#[Value.map (some m), KeyK.enc k] : Array Value)[1]? = some (KeyK.enc k) := rfl
  unfold Builtin.delete_
  rw [h0, h1, h2]
  cases hi : idxE k es 0 with
  | none =>
    have hn := (idxE_none k es 0).1 hi
    rw [hi] at hfk
    simp only [Sem.run_bind, run_underlying hT, Result.andThen, MapKept.run_getObj_map hm, hck, hfk, MapKept.run_setObj_map _ hm, World.setBlock, delE_none k es hn, Sem.run_pure]
  | some p =>
    have her := erase_eq k es 0 p hi
    obtain ⟨hlt, _⟩ := idxE_lt k es 0 p hi
    rw [Nat.sub_zero] at her
    rw [hi] at hfk
    have e : (es.map mkE).toArray.eraseIdxIfInBounds p.1 = ((delE k es).map mkE).toArray := by
      apply Array.ext'
      rw [← her]
      simp [Array.eraseIdxIfInBounds, show p.1 < es.length by omega]
    simp only [Sem.run_bind, run_underlying hT, Result.andThen, MapKept.run_getObj_map hm, hck, hfk, MapKept.run_setObj_map _ hm, World.setBlock, e, Sem.run_pure]

end Go.VC
