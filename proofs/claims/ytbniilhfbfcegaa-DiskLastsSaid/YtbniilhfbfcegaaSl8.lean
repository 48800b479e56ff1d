/- SL, part 8: slices of any one-cell elements; bytes and strings. No condition. -/
import Derived.Test.YtbniilhfbfcegaaSl7
import Derived.Lib.ConvBytes
import Derived.Laws.BytesArg
import Derived.Laws.Strings
namespace Go.VC
variable {P : Program} {R : Cx} {Hs : List HP} {w : World} {s : Sl} {T : TypeId}

/-- An element of a slice that is only read: integers of any kind. -/
theorem Ro.idxK {kd : IntKind} {xs : List Int} {S : World → Prop} (hr : Ro R s (xs.map (Value.int kd))) (hS : ∀ w, S w → Sat R Hs w) {k : Nat} (hk : k < xs.length) {F : Int → Prop} (h : F xs[k]) :
    Rng (k : Int) s.len (NilP s.a fun a => ∃ t : Int, (At S (a.add (k : Int).toNat) [.int kd t]) ∧ F t) := by
  obtain ⟨a, ha, hat⟩ := hr.addr (k := k) (by simpa using hk)
  have hl : s.len = xs.length := by have := hr.len; simpa using this
  refine Rng.mk (by omega) (by omega) (NilP.mk ha ⟨xs[k], ?_, h⟩)
  have := hat hS
  simpa using this

/-- .. strings. -/
theorem Ro.idxStr {xs : List ByteArray} {S : World → Prop} (hr : Ro R s (xs.map Value.string)) (hS : ∀ w, S w → Sat R Hs w) {k : Nat} (hk : k < xs.length) {F : ByteArray → Prop} (h : F xs[k]) :
    Rng (k : Int) s.len (NilP s.a fun a => ∃ t : ByteArray, (At S (a.add (k : Int).toNat) [.string t]) ∧ F t) := by
  obtain ⟨a, ha, hat⟩ := hr.addr (k := k) (by simpa using hk)
  have hl : s.len = xs.length := by have := hr.len; simpa using this
  refine Rng.mk (by omega) (by omega) (NilP.mk ha ⟨xs[k], ?_, h⟩)
  have := hat hS
  simpa using this

/-- What is appended: a slice that is only read. -/
theorem srcRo {t2 e' : TypeId} (ht : P.underlying t2 = some (.slice e')) {xs : List Value} (hw : Sat R Hs w) (hs : Ro R s xs) (h1 : oneAll xs = true) : Src P 1 t2 (.slice s.a s.len s.cap) xs.length xs w := by
  have hl : s.len = xs.length := hs.len
  by_cases hx : xs = []
  · subst hx
    obtain ⟨a, n, c⟩ := s
    simp only [List.length_nil] at hl
    subst hl
    cases a with
    | none => exact Go.Src.ofNil _ ht _
    | some a => exact Go.Src.ofSlice w ht _ 0 _ [] rfl (fun j u hj => by simp at hj) (fun u hu => by cases hu)
  · obtain ⟨b, off, l, T, fr, ha, hb, hel⟩ := hs.mem hx
    obtain ⟨a, n, c⟩ := s
    simp only at ha hl
    subst ha hl
    refine Go.Src.ofSlice w ht _ _ _ _ (by simp) (fun j u hj => ?_) (fun u hu => List.all_eq_true.1 h1 u hu)
    rw [add_off]
    have := hw.of_ro hb
    simp only [World.cell?, this, Option.isSome_none, Bool.false_eq_true, if_false]
    exact hel j u hj

/-- A string's bytes, as numbers. -/
def bytesL (s : ByteArray) : List Int := s.data.toList.map fun b => (b.toNat : Int)
theorem bytesL_len (s : ByteArray) : (bytesL s).length = s.size := by simp [bytesL]
theorem bytesL_bd (s : ByteArray) : ∀ n ∈ bytesL s, 0 ≤ n ∧ n < 256 := by
  intro n hn
  obtain ⟨b, _, rfl⟩ := List.mem_map.1 hn
  have := b.toNat_lt
  omega

theorem world_heap_ext {a b : World} (h : a.heap = b.heap) (h2 : { a with heap := b.heap } = b) : a = b := by rw [← h2, ← h]

theorem bytesWorld_alloc (w : World) (e : TypeId) (s : ByteArray) :
    Lib.bytesWorld w e s = w.drew.alloc (.cells (Lib.bytesCells w e s) e ((Lib.bytesCells w e s).size, (Lib.bytesCells w e s).size + 1)) := by
  have : (Lib.bytesWorld w e s).heap = (w.drew.alloc (.cells (Lib.bytesCells w e s) e ((Lib.bytesCells w e s).size, (Lib.bytesCells w e s).size + 1))).heap := by
    apply Array.ext_getElem?
    intro i
    by_cases hi : i < w.heap.size
    · rw [Lib.bytesWorld_at_old w e s i hi]
      simp [World.alloc, World.drew, -World.alloc_eq, -World.drew_eq, Array.getElem?_push, Nat.ne_of_lt hi]
    · by_cases h2 : i = w.heap.size
      · subst h2
        rw [Lib.bytesWorld_at_new]
        simp [World.alloc, World.drew, -World.alloc_eq, -World.drew_eq]
      · rw [Array.getElem?_eq_none (by rw [Lib.bytesWorld_size]; omega), Array.getElem?_eq_none (by simp [World.alloc, World.drew, -World.alloc_eq, -World.drew_eq]; omega)]
  exact world_heap_ext this rfl

/-- '[]byte(s)'. -/
theorem convB_rule {src dst : TypeId} {u : TypeDesc} (hs : P.underlying src = some u) (hd : P.underlying dst = some (.slice T)) (he : P.underlying T = some (.int .u8)) {b : ByteArray} {K : Sl → World → Prop}
    (hw : Sat R Hs w) (k : ∀ t w', Sat R (Own t T ((bytesL b).map (Value.int .u8)) :: Hs) w' → K t w') :
    ∃ w', ∃ t : Sl, (convert src dst (.string b)).run P w = .ok (.slice t.a t.len t.cap) w' ∧ K t w' := by
  refine ⟨_, ⟨some ⟨w.heap.size, 0, none⟩, b.size, grownCap w b.size 0 T⟩, Lib.run_convert_string_bytes w src dst T b hs hd he, k _ _ ?_⟩
  rw [bytesWorld_alloc]
  have hc : Lib.bytesCells w T b = ((bytesL b).map (Value.int .u8) ++ List.replicate (grownCap w b.size 0 T - b.size) (Value.int .u8 0)).toArray := by
    apply Array.ext'
    simp [Lib.bytesCells, bytesL, Function.comp_def]
  have h1 := Sat.alloc (Obj.cells (Lib.bytesCells w T b) T ((Lib.bytesCells w T b).size, (Lib.bytesCells w T b).size + 1)) hw.drew
  have hg := grownCap_ge w b.size 0 T
  rw [hc] at h1 ⊢
  have h2 := Own.of_pts h1 (.inr (by simp))
  have e : (⟨some ⟨w.drew.heap.size, 0, none⟩, ((bytesL b).map (Value.int .u8)).length, ((bytesL b).map (Value.int .u8) ++ List.replicate (grownCap w b.size 0 T - b.size) (Value.int .u8 0)).length⟩ : Sl) = ⟨some ⟨w.heap.size, 0, none⟩, b.size, grownCap w b.size 0 T⟩ := by
    simp only [List.length_append, List.length_map, List.length_replicate, bytesL_len, World.size_drew]
    congr 1
    omega
  rw [e] at h2
  exact h2

/-- The string of bytes. -/
def strOf (xs : List Int) : ByteArray := ⟨(xs.map fun n => UInt8.ofNat n.toNat).toArray⟩

/-- 'string(b)', of a slice that is only read. -/
theorem convS_ro {src dst : TypeId} (hs : P.underlying src = some (.slice T)) (he : P.underlying T = some (.int .u8)) (hd : P.underlying dst = some .string) {xs : List Int}
    (hw : Sat R Hs w) (hr : Ro R s (xs.map (Value.int .u8))) : (convert src dst (.slice s.a s.len s.cap)).run P w = .ok (.string (strOf xs)) w := by
  have hl : s.len = xs.length := by have := hr.len; simpa using this
  by_cases hx : xs = []
  · subst hx
    obtain ⟨a, n, c⟩ := s
    simp only [List.length_nil] at hl
    subst hl
    cases a with
    | none => exact run_convert_bytes_nil w src T hs he _ _ dst hd
    | some a =>
      rw [run_convert_bytes_string w src dst T _ _ _ hs he hd, run_bytesToString w a 0 c [] (by simpa using run_loadCells_list (P := P) w a [] (fun j v hj => by simp at hj))]
      rfl
  · obtain ⟨b, off, l, T', fr, ha, hb, hel⟩ := hr.mem (by simpa using hx)
    obtain ⟨a, n, c⟩ := s
    simp only at ha hl
    subst ha hl
    refine (run_convert_bytes_arg w src T hs he b off _ c xs rfl (fun i hi => ?_) dst hd).trans rfl
    have := hw.of_ro hb
    simp only [World.cell?, this, Option.isSome_none, Bool.false_eq_true, if_false]
    refine hel i _ ?_
    simp [hi, List.getD]

theorem strOf_bytesL (b : ByteArray) : strOf (bytesL b) = b := by
  unfold strOf bytesL
  rw [List.map_map]
  have : (List.map ((fun n : Int => UInt8.ofNat n.toNat) ∘ fun b : UInt8 => (b.toNat : Int)) b.data.toList) = b.data.toList := by
    conv => rhs; rw [← List.map_id b.data.toList]
    apply List.map_congr_left
    intro x _
    simp
  rw [this]

theorem bytesL_strOf {xs : List Int} (h : ∀ n ∈ xs, 0 ≤ n ∧ n < 256) : bytesL (strOf xs) = xs := by
  unfold strOf bytesL
  simp only [List.map_map]
  conv => rhs; rw [← List.map_id xs]
  apply List.map_congr_left
  intro x hx
  have := h x hx
  simp
  omega

end Go.VC
