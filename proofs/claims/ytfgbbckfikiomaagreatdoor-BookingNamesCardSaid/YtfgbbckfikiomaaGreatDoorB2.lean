/- SL, part 7: a map of one's own, by its keys and values; opening of what holds for some x. No condition. -/
import Derived.Test.YtfgbbckfikiomaaGreatDoorB1
import Derived.Lib.ConvBytes
import Derived.Laws.BytesArg
import Derived.Laws.Strings
import Derived.Below
import Derived.Sort.KeysCollected
import Derived.Maps.Own
import Derived.Laws.BitsAllLaws
import Derived.Lib.BitFns
import Derived.KernelRfl
import Derived.Lib.AppendZeros
import Derived.Laws.RangeAny
import Derived.Laws.MakeOwn
namespace Go.VC
set_option linter.unusedVariables false
variable {α : Type} [BEq α] [KeyK α]
def getM {β : Type} (k : α) : List (α × β) → Option β
  | [] => none
  | e :: es => if k == e.1 then some e.2 else getM k es
def setM {β : Type} (k : α) (v : β) : List (α × β) → List (α × β)
  | [] => []
  | e :: es => if k == e.1 then (e.1, v) :: es else e :: setM k v es
def delM {β : Type} (k : α) : List (α × β) → List (α × β)
  | [] => []
  | e :: es => if k == e.1 then es else e :: delM k es
def putM {β : Type} (k : α) (v : β) (es : List (α × β)) : List (α × β) := if (getM k es).isSome then setM k v es else es ++ [(k, v)]
abbrev strip (es : List (En α)) : List (α × Value) := es.map fun e => (e.1, e.2.1)
omit [KeyK α] in
theorem getE_strip (k : α) : ∀ es : List (En α), getE k es = getM k (strip es)
  | [] => rfl
  | e :: es => by rw [getE, strip, List.map_cons, getM, getE_strip k es]
omit [KeyK α] in
theorem hasE_strip (k : α) (es : List (En α)) : hasE k es = (getM k (strip es)).isSome := by unfold hasE; rw [getE_strip]
omit [KeyK α] in
theorem setE_strip (k : α) (v : Value) : ∀ es : List (En α), strip (setE k v es) = setM k v (strip es)
  | [] => rfl
  | e :: es => by
    have ih := setE_strip k v es
    unfold strip at *
    rw [List.map_cons, setE, setM]
    split
    · simp
    · simp [ih]
omit [KeyK α] in
theorem delE_strip (k : α) : ∀ es : List (En α), strip (delE k es) = delM k (strip es)
  | [] => rfl
  | e :: es => by
    have ih := delE_strip k es
    unfold strip at *
    rw [List.map_cons, delE, delM]
    split
    · rfl
    · simp [ih]
omit [KeyK α] in
theorem putE_strip (k : α) (v : Value) (es : List (En α)) (c : Nat) : strip (putE k v es c) = putM k v (strip es) := by
  unfold putE putM
  rw [hasE_strip]
  split
  · exact setE_strip k v es
  · simp [strip]
def StampsOk (l : List (En α)) (c : Nat) : Prop := (∀ e ∈ l, e.2.2 < c) ∧ (l.map (·.2.2)).Nodup
omit [KeyK α] in
theorem setE_stamps (k : α) (v : Value) : ∀ l : List (En α), (setE k v l).map (·.2.2) = l.map (·.2.2)
  | [] => rfl
  | e :: es => by
    rw [setE]
    split
    · rfl
    · rw [List.map_cons, List.map_cons, setE_stamps k v es]
omit [KeyK α] in
theorem delE_sub (k : α) : ∀ l : List (En α), (delE k l).Sublist l
  | [] => List.Sublist.refl _
  | e :: es => by
    rw [delE]
    split
    · exact List.sublist_cons_self _ _
    · exact (delE_sub k es).cons_cons _
omit [KeyK α] in
theorem stamps_put {l : List (En α)} {c : Nat} (h : StampsOk l c) (k : α) (v : Value) : StampsOk (putE k v l c) (if hasE k l then c else c + 1) := by
  unfold putE
  split
  · refine ⟨fun e he => ?_, by rw [setE_stamps]; exact h.2⟩
    have : e.2.2 ∈ (setE k v l).map (·.2.2) := List.mem_map_of_mem he
    rw [setE_stamps] at this
    obtain ⟨x, hx, hxe⟩ := List.mem_map.1 this
    rw [← hxe]; exact h.1 x hx
  · refine ⟨fun e he => ?_, ?_⟩
    · rcases List.mem_append.1 he with he | he
      · have := h.1 e he; omega
      · simp at he; subst he; simp
    · rw [List.map_append, List.nodup_append]
      refine ⟨h.2, by simp, fun x hx y hy => ?_⟩
      simp at hy
      obtain ⟨e, he, rfl⟩ := List.mem_map.1 hx
      have := h.1 e he
      omega
omit [KeyK α] in
theorem stamps_del {l : List (En α)} {c : Nat} (h : StampsOk l c) (k : α) : StampsOk (delE k l) c :=
  ⟨fun e he => h.1 e ((delE_sub k l).subset he), ((delE_sub k l).map _).nodup h.2⟩
def MapAt (m : Nat) (es : List (α × Value)) : HP := fun h => ∃ (l : List (En α)) (c : Nat), strip l = es ∧ StampsOk l c ∧ h = Heap.one m (.map (l.map mkE).toArray c)
theorem MapAt.iff {R : Cx} {Hs : List HP} {w : World} {m : Nat} {es : List (α × Value)} : Sat R (MapAt m es :: Hs) w ↔ ∃ l c, strip l = es ∧ StampsOk l c ∧ Sat R (pts m (.map (l.map (mkE (α := α))).toArray c) :: Hs) w := by
  constructor
  · rintro ⟨a, ⟨l, c, h1, h3, h2⟩, hd, hs⟩; exact ⟨l, c, h1, h3, a, h2, hd, hs⟩
  · rintro ⟨l, c, h1, h3, a, h2, hd, hs⟩; exact ⟨a, ⟨l, c, h1, h3, h2⟩, hd, hs⟩
structure MapT (P : Program) (T : TypeId) (α : Type) [BEq α] [KeyK α] (K E : TypeId) (z : Value) : Prop where
  hT : P.underlying T = some (.map K E)
  hK : P.underlying K = some (KeyK.desc α)
  hz : ∀ w, (zeroValue E).run P w = .ok z w
variable {P : Program} {R : Cx} {Hs : List HP} {w : World} {m : Nat} {es : List (α × Value)} {T K E : TypeId} {z : Value}
theorem MapAt.look (M : MapT P T α K E z) (hw : Sat R (MapAt m es :: Hs) w) (k : α) (c : Bool) :
    (Instr.lookup T (.map (some m)) (KeyK.enc k) c).run P w = .ok (if c then .tuple #[(getM k es).getD z, .bool (getM k es).isSome] else (getM k es).getD z) w := by
  obtain ⟨l, clk, rfl, _, hp⟩ := MapAt.iff.1 hw
  rw [lookup_run M.hT M.hK M.hz hp.at k c, getE_strip, hasE_strip]
theorem MapAt.put (M : MapT P T α K E z) (hw : Sat R (MapAt m es :: Hs) w) (k : α) (v : Value) {Q : World → Prop} (h : ∀ w', Sat R (MapAt m (putM k v es) :: Hs) w' → Q w') :
    ∃ w', (Instr.mapUpdate T (.map (some m)) (KeyK.enc k) v).run P w = .ok () w' ∧ Q w' := by
  obtain ⟨l, clk, rfl, hst, hp⟩ := MapAt.iff.1 hw
  refine ⟨_, update_run M.hT M.hK hp.at k v, h _ (MapAt.iff.2 ⟨putE k v l clk, _, putE_strip k v l clk, stamps_put hst k v, hp.setPts _⟩)⟩
theorem MapAt.del {t2 ty : TypeId} (M : MapT P T α K E z) (hw : Sat R (MapAt m es :: Hs) w) (k : α) {Q : World → Prop} (h : ∀ w', Sat R (MapAt m (delM k es) :: Hs) w' → Q w') :
    ∃ w', (Builtin.delete_ #[T, t2] ty #[.map (some m), KeyK.enc k]).run P w = .ok (.tuple #[]) w' ∧ Q w' := by
  obtain ⟨l, clk, rfl, hst, hp⟩ := MapAt.iff.1 hw
  exact ⟨_, delete_run M.hT M.hK hp.at k, h _ (MapAt.iff.2 ⟨delE k l, _, delE_strip k l, stamps_del hst k, hp.setPts _⟩)⟩
theorem MapAt.new {o : Obj} (ho : o = .map #[] 0) (hw : Sat R (pts m o :: Hs) w) : Sat R (MapAt (α := α) m [] :: Hs) w := by
  subst ho
  exact MapAt.iff.2 ⟨[], 0, rfl, ⟨fun _ h => (by cases h), List.nodup_nil⟩, hw⟩
section
variable {β : Type}
omit [KeyK α] in
theorem getM_app {k : α} {v : β} : ∀ {a b : List (α × β)}, getM k a = none → (k == k) = true → getM k (a ++ (k, v) :: b) = some v
  | [], b, _, hk => by simp [getM, hk]
  | e :: a, b, h, hk => by
    rw [getM] at h
    split at h
    · cases h
    · rename_i hne
      rw [List.cons_append, getM, if_neg hne]
      exact getM_app h hk
omit [KeyK α] in
theorem setM_app {k : α} {v v' : β} : ∀ {a b : List (α × β)}, getM k a = none → (k == k) = true → setM k v' (a ++ (k, v) :: b) = a ++ (k, v') :: b
  | [], b, _, hk => by simp [setM, hk]
  | e :: a, b, h, hk => by
    rw [getM] at h
    split at h
    · cases h
    · rename_i hne
      rw [List.cons_append, setM, if_neg hne, setM_app h hk]; rfl
omit [KeyK α] in
theorem delM_app {k : α} {v : β} : ∀ {a b : List (α × β)}, getM k a = none → (k == k) = true → delM k (a ++ (k, v) :: b) = a ++ b
  | [], b, _, hk => by simp [delM, hk]
  | e :: a, b, h, hk => by
    rw [getM] at h
    split at h
    · cases h
    · rename_i hne
      rw [List.cons_append, delM, if_neg hne, delM_app h hk]; rfl
theorem getM_split {k : α} {v : β} : ∀ {l : List (α × β)}, getM k l = some v → ∃ a b, l = a ++ (k, v) :: b ∧ getM k a = none
  | [], h => by cases h
  | e :: l, h => by
    rw [getM] at h
    split at h
    · rename_i hk
      cases h
      have := KeyK.eq _ _ hk
      subst this
      exact ⟨[], l, rfl, rfl⟩
    · rename_i hne
      obtain ⟨a, b, rfl, ha⟩ := getM_split h
      exact ⟨e :: a, b, rfl, by rw [getM, if_neg hne]; exact ha⟩
omit [KeyK α] in
theorem getM_map {γ : Type} (f : β → γ) (k : α) : ∀ l : List (α × β), getM k (l.map fun e => (e.1, f e.2)) = (getM k l).map f
  | [] => rfl
  | e :: l => by
    rw [List.map_cons, getM, getM, getM_map f k l]
    split <;> rfl
end
end Go.VC
/- SL, part 8: slices of any one-cell elements; bytes and strings. No condition. -/
namespace Go.VC
set_option linter.unusedVariables false
variable {P : Program} {R : Cx} {Hs : List HP} {w : World} {s : Sl} {T : TypeId}
theorem Ro.idxK {kd : IntKind} {xs : List Int} {S : World → Prop} (hr : Ro R s (xs.map (Value.int kd))) (hS : ∀ w, S w → Sat R Hs w) {k : Nat} (hk : k < xs.length) {F : Int → Prop} (h : F xs[k]) :
    Rng (k : Int) s.len (NilP s.a fun a => ∃ t : Int, (At S (a.add (k : Int).toNat) [.int kd t]) ∧ F t) := by
  obtain ⟨a, ha, hat⟩ := hr.addr (k := k) (by simpa using hk)
  have hl : s.len = xs.length := by have := hr.len; simpa using this
  refine Rng.mk (by omega) (by omega) (NilP.mk ha ⟨xs[k], ?_, h⟩)
  have := hat hS
  simpa using this
theorem srcRo {t2 e' : TypeId} (ht : P.underlying t2 = some (.slice e')) {xs : List Value} (hw : Sat R Hs w) (hs : Ro R s xs) (h1 : oneAll xs = true) : Src P 1 t2 (.slice s.a s.len s.cap) xs.length xs w := by
  have hl : s.len = xs.length := hs.len
  by_cases hx : xs = []
  · subst hx
    obtain ⟨a, n, c⟩ := s
    simp only [List.length_nil] at hl
    subst hl
    cases a with
    | none => exact Go.Src.ofNil _ ht _
    | some a => exact Go.Src.ofSlice w ht _ 0 _ [] rfl (fun j u hj => by simp at hj) (fun u hu => by cases hu)
  · obtain ⟨b, off, l, T, fr, ha, hb, hel⟩ := hs.mem hx
    obtain ⟨a, n, c⟩ := s
    simp only at ha hl
    subst ha hl
    refine Go.Src.ofSlice w ht _ _ _ _ (by simp) (fun j u hj => ?_) (fun u hu => List.all_eq_true.1 h1 u hu)
    rw [add_off]
    have := hw.of_ro hb
    simp only [World.cell?, this, Option.isSome_none, Bool.false_eq_true, if_false]
    exact hel j u hj
def bytesL (s : ByteArray) : List Int := s.data.toList.map fun b => (b.toNat : Int)
theorem bytesL_len (s : ByteArray) : (bytesL s).length = s.size := by simp [bytesL]
theorem bytesL_bd (s : ByteArray) : ∀ n ∈ bytesL s, 0 ≤ n ∧ n < 256 := by
  intro n hn
  obtain ⟨b, _, rfl⟩ := List.mem_map.1 hn
  have := b.toNat_lt
  omega
def strOf (xs : List Int) : ByteArray := ⟨(xs.map fun n => UInt8.ofNat n.toNat).toArray⟩
theorem convS_ro {src dst : TypeId} (hs : P.underlying src = some (.slice T)) (he : P.underlying T = some (.int .u8)) (hd : P.underlying dst = some .string) {xs : List Int}
    (hw : Sat R Hs w) (hr : Ro R s (xs.map (Value.int .u8))) : (convert src dst (.slice s.a s.len s.cap)).run P w = .ok (.string (strOf xs)) w := by
  have hl : s.len = xs.length := by have := hr.len; simpa using this
  by_cases hx : xs = []
  · subst hx
    obtain ⟨a, n, c⟩ := s
    simp only [List.length_nil] at hl
    subst hl
    cases a with
    | none => exact run_convert_bytes_nil w src T hs he _ _ dst hd
    | some a =>
      rw [run_convert_bytes_string w src dst T _ _ _ hs he hd, run_bytesToString w a 0 c [] (by simpa using run_loadCells_list (P := P) w a [] (fun j v hj => by simp at hj))]
      rfl
  · obtain ⟨b, off, l, T', fr, ha, hb, hel⟩ := hr.mem (by simpa using hx)
    obtain ⟨a, n, c⟩ := s
    simp only at ha hl
    subst ha hl
    refine (run_convert_bytes_arg w src T hs he b off _ c xs rfl (fun i hi => ?_) dst hd).trans rfl
    have := hw.of_ro hb
    simp only [World.cell?, this, Option.isSome_none, Bool.false_eq_true, if_false]
    refine hel i _ ?_
    simp [hi, List.getD]
theorem strOf_bytesL (b : ByteArray) : strOf (bytesL b) = b := by
  unfold strOf bytesL
  rw [List.map_map]
  have : (List.map ((fun n : Int => UInt8.ofNat n.toNat) ∘ fun b : UInt8 => (b.toNat : Int)) b.data.toList) = b.data.toList := by
    conv => rhs; rw [← List.map_id b.data.toList]
    apply List.map_congr_left
    intro x _
    simp
  rw [this]
theorem bytesL_strOf {xs : List Int} (h : ∀ n ∈ xs, 0 ≤ n ∧ n < 256) : bytesL (strOf xs) = xs := by
  unfold strOf bytesL
  simp only [List.map_map]
  conv => rhs; rw [← List.map_id xs]
  apply List.map_congr_left
  intro x hx
  have := h x hx
  simp
  omega
end Go.VC
/- SL, part 9: what a call of the library leaves that changes no block that lay before: a new row of cells. No condition. -/
namespace Go.VC
set_option linter.unusedVariables false
open Go Go.RowKit
structure Keeps (w w' : World) : Prop where
  os : w'.os = w.os
  tape : w'.tape = w.tape
  output : w'.output = w.output
  block : ∀ k, k < w.heap.size → w'.heap[k]? = w.heap[k]?
theorem Keeps.of_below {w w' : World} (h : Below w.heap.size w w') : Keeps w w' := ⟨h.os, h.tape, h.output, h.block⟩
theorem Sat.keeps : ∀ {Hs : List HP} {R : Cx} {w w' : World}, Sat R Hs w → Keeps w w' → Sat R Hs w'
  | [], _, w, _, h, e => ⟨fun b o hb => by
      have := h.1 b o hb
      rw [e.block b (Array.getElem?_eq_some_iff.1 this).1]; exact this, e.os.trans h.2.1, e.tape.trans h.2.2.1, e.output.trans h.2.2.2⟩
  | _ :: _, _, _, _, h, e => let ⟨h', hH, hd, hs⟩ := h; ⟨h', hH, hd, hs.keeps e⟩
theorem Sat.grewTo : ∀ {Hs : List HP} {R : Cx} {w w' : World} {b : Nat} {o : Obj}, Sat R Hs w → Keeps w w' → w.heap.size ≤ b → w'.heap[b]? = some o → Sat (R.add (Heap.one b o)) Hs w'
  | [], R, w, w', b, o, h, e, hb, ho => by
    refine ⟨fun i x hx => ?_, e.os.trans h.2.1, e.tape.trans h.2.2.1, e.output.trans h.2.2.2⟩
    simp only [Cx.m_add, Heap.add, Heap.one] at hx
    cases hr : R.m i with
    | some y =>
      rw [hr] at hx
      have := h.1 i y hr
      rw [e.block i (Array.getElem?_eq_some_iff.1 this).1, this]
      exact hx
    | none =>
      rw [hr] at hx
      simp only at hx
      split at hx
      · rename_i hi; subst hi; rw [ho]; exact hx
      · cases hx
  | H :: Hs, R, w, w', b, o, h, e, hb, ho => by
    have hR : R.m b = .none := Sat.ro_lt h hb
    obtain ⟨a, hA, hd, hs⟩ := h
    have hadd : (R.add a).m b = .none := Sat.ro_lt hs hb
    have ha : a b = .none := by simpa [Cx.m_add, Heap.add, hR] using hadd
    have := Sat.grewTo hs e hb ho
    have hdis : (Heap.one b o).dis a := by
      intro i hi
      simp only [Heap.one]
      split
      · rename_i h; subst h; exact absurd ha hi
      · rfl
    refine ⟨a, hA, Cx.add_dis hd hdis, ?_⟩
    rw [Cx.add_assoc, Heap.add_comm hdis, ← Cx.add_assoc]
    exact this
theorem Sat.fresh {R : Cx} {Hs : List HP} {w w' : World} {b : Nat} {o : Obj} (h : Sat R Hs w) (e : Keeps w w') (hb : w.heap.size ≤ b) (ho : w'.heap[b]? = some o) : Sat R (pts b o :: Hs) w' :=
  Sat.lend.2 ⟨Sat.ro_lt h hb, Sat.grewTo h e hb ho⟩
theorem Sat.ownsRow {R : Cx} {Hs : List HP} {w w' : World} {T : TypeId} {v : Value} {n : Nat} {xs : List Value} (h : Sat R Hs w) (e : Below w.heap.size w w') (hr : w'.ownsRow w.heap.size T 1 v n xs) :
    ∃ s : Sl, v = .slice s.a s.len s.cap ∧ Sat R (Own s T xs :: Hs) w' := by
  obtain ⟨hl, h1 | ⟨g, cap, cur, rfl, hg, hb, hn, hc, hcs, ht⟩⟩ := hr
  · obtain ⟨rfl, rfl⟩ := h1
    have : xs = [] := by simpa using hl
    subst this
    exact ⟨⟨none, 0, 0⟩, rfl, Own.nil (h.keeps (.of_below e))⟩
  · rw [Nat.mul_one] at *
    have h2 := h.fresh (.of_below e) hg hb
    have e1 : cur = (xs ++ cur.toList.drop n).toArray := by
      apply Array.ext'
      rw [← ht]; simp
    rw [e1] at h2
    have h3 := Own.of_pts h2
    refine ⟨_, ?_, h3⟩
    have : (xs ++ cur.toList.drop n).length = cap := by
      have e2 : cur.toList.length = cap := by rw [Array.length_toList]; exact hcs
      rw [List.length_append, List.length_drop, e2, hl]; omega
    simp only [this, hl]
end Go.VC
/- SL, part 10: slices whose elements are structs of n cells: one's own, or only read; elements, stores, append. No condition but bounds on lengths. -/
namespace Go.VC
set_option linter.unusedVariables false
open Go Go.RowKit
variable {P : Program} {R : Cx} {Hs Rest : List HP} {w : World} {s : Sl} {T : TypeId} {n : Nat}
def Wid (n : Nat) (rows : List (List Value)) : Prop := ∀ x ∈ rows, x.length = n
theorem Wid.nil {n : Nat} : Wid n [] := fun _ h => by cases h
theorem Wid.app {n : Nat} {a b : List (List Value)} (ha : Wid n a) (hb : Wid n b) : Wid n (a ++ b) := fun x hx => (List.mem_append.1 hx).elim (ha x) (hb x)
theorem Wid.one {n : Nat} {x : List Value} (h : x.length = n) : Wid n [x] := fun y hy => by simp at hy; rw [hy]; exact h
theorem Wid.len {n : Nat} : ∀ {rows : List (List Value)}, Wid n rows → rows.flatten.length = rows.length * n
  | [], _ => by simp
  | x :: rows, h => by
    rw [List.flatten_cons, List.length_append, h x List.mem_cons_self, Wid.len (rows := rows) (fun y hy => h y (List.mem_cons_of_mem _ hy)), List.length_cons, Nat.add_mul]
    omega
theorem Wid.drop_flat {n : Nat} : ∀ {rows : List (List Value)} (k : Nat), Wid n rows → rows.flatten.drop (k * n) = (rows.drop k).flatten
  | rows, 0, _ => by simp
  | [], k + 1, _ => by simp
  | x :: rows, k + 1, h => by
    have hx := h x List.mem_cons_self
    rw [List.flatten_cons, List.drop_succ_cons, ← Wid.drop_flat (rows := rows) k (fun y hy => h y (List.mem_cons_of_mem _ hy)), List.drop_append]
    have e1 : x.drop ((k + 1) * n) = [] := List.drop_eq_nil_of_le (by rw [hx, Nat.add_mul]; omega)
    have e2 : (k + 1) * n - x.length = k * n := by rw [hx, Nat.add_mul]; omega
    rw [e1, e2, List.nil_append]
theorem Wid.take_flat {n : Nat} {rows : List (List Value)} (k : Nat) (h : Wid n rows) : rows.flatten.take (k * n) = (rows.take k).flatten := by
  by_cases hk : k ≤ rows.length
  · have e : rows.flatten = (rows.take k).flatten ++ (rows.drop k).flatten := by rw [← List.flatten_append, List.take_append_drop]
    rw [e, List.take_left']
    rw [Wid.len (fun x hx => h x (List.mem_of_mem_take hx)), List.length_take, Nat.min_eq_left hk]
  · rw [List.take_of_length_le (by rw [h.len]; exact Nat.mul_le_mul_right _ (by omega)), List.take_of_length_le (by omega)]
theorem Wid.take {n k : Nat} {rows : List (List Value)} (h : Wid n rows) : Wid n (rows.take k) := fun x hx => h x (List.mem_of_mem_take hx)
theorem Wid.drop {n k : Nat} {rows : List (List Value)} (h : Wid n rows) : Wid n (rows.drop k) := fun x hx => h x (List.mem_of_mem_drop hx)
theorem Wid.set {n k : Nat} {rows : List (List Value)} {x : List Value} (h : Wid n rows) (hx : x.length = n) : Wid n (rows.set k x) := fun y hy => by
  rcases List.mem_or_eq_of_mem_set hy with hy | rfl
  · exact h y hy
  · exact hx
theorem Pre.app : ∀ {vs a : List Value} (b : List Value), Pre vs a → Pre vs (a ++ b)
  | [], _, _, _ => trivial
  | _ :: _, _ :: _, b, h => ⟨h.1, Pre.app b h.2⟩
  | _ :: _, [], _, h => h.elim
theorem Pre.len : ∀ {vs a : List Value}, Pre vs a → vs.length ≤ a.length
  | [], _, _ => Nat.zero_le _
  | _ :: _, _ :: _, h => by simp only [List.length_cons]; exact Nat.succ_le_succ (Pre.len h.2)
  | _ :: _, [], h => h.elim
theorem Wid.pre {n k j : Nat} {rows : List (List Value)} (rest : List Value) (h : Wid n rows) (hk : k < rows.length) {vs : List Value} (hp : Pre vs (rows[k].drop j)) : Pre vs ((rows.flatten ++ rest).drop (k * n + j)) := by
  cases vs with
  | nil => trivial
  | cons v vs =>
    have hj : j < rows[k].length := by
      have := Pre.len hp; simp only [List.length_cons, List.length_drop] at this; omega
    have hx : rows[k].length = n := h _ (List.getElem_mem _)
    have hle : k * n + j ≤ rows.flatten.length := by
      rw [h.len]
      have : (k + 1) * n ≤ rows.length * n := Nat.mul_le_mul_right _ (by omega)
      rw [Nat.add_mul] at this
      omega
    rw [List.drop_append_of_le_length hle, Nat.add_comm (k * n) j, ← List.drop_drop]
    rw [Nat.add_comm] at hle
    rw [List.drop_drop, Nat.add_comm j, ← List.drop_drop, h.drop_flat, List.drop_eq_getElem_cons hk, List.flatten_cons, List.drop_append_of_le_length (by omega), List.append_assoc]
    exact hp.app _
theorem set_flat {n : Nat} : ∀ {rows : List (List Value)} {k j : Nat} (v : Value), Wid n rows → (hk : k < rows.length) → j < n → rows.flatten.set (k * n + j) v = (rows.set k (rows[k].set j v)).flatten
  | [], k, j, v, _, hk, _ => by simp at hk
  | x :: rows, 0, j, v, h, _, hj => by
    have hx := h x List.mem_cons_self
    simp only [Nat.zero_mul, Nat.zero_add, List.flatten_cons, List.getElem_cons_zero, List.set_cons_zero]
    rw [List.set_append_left _ _ (by omega)]
  | x :: rows, k + 1, j, v, h, hk, hj => by
    have hx := h x List.mem_cons_self
    have hk' : k < rows.length := by simpa using hk
    simp only [List.flatten_cons, List.getElem_cons_succ, List.set_cons_succ]
    rw [List.set_append_right _ _ (by rw [hx, Nat.add_mul]; omega)]
    have e : (k + 1) * n + j - x.length = k * n + j := by rw [hx, Nat.add_mul]; omega
    rw [e, set_flat v (fun y hy => h y (List.mem_cons_of_mem _ hy)) hk' hj]
theorem putL_flat {n : Nat} {rest : List Value} : ∀ (vs : List Value) {rows : List (List Value)} {k j : Nat}, Wid n rows → (hk : k < rows.length) → j + vs.length ≤ n →
    putL (rows.flatten ++ rest) (k * n + j) vs = (rows.set k (putL rows[k] j vs)).flatten ++ rest
  | [], rows, k, j, _, hk, _ => by simp [putL]
  | v :: vs, rows, k, j, h, hk, hj => by
    simp only [List.length_cons] at hj
    have hb : k * n + j < rows.flatten.length := by
      rw [h.len]
      have : (k + 1) * n ≤ rows.length * n := Nat.mul_le_mul_right _ (by omega)
      rw [Nat.add_mul] at this
      omega
    rw [putL, List.set_append_left _ _ hb, set_flat v h hk (by omega), Nat.add_assoc, putL_flat vs (h.set (by rw [List.length_set]; exact h _ (List.getElem_mem _))) (by simpa using hk) (by omega)]
    simp [putL]
def OwnN (n : Nat) (s : Sl) (T : TypeId) (rows : List (List Value)) : HP := fun h =>
  Wid n rows ∧ ((s = ⟨none, 0, 0⟩ ∧ rows = [] ∧ h = Heap.none) ∨
    ∃ b rest fr cap, s = ⟨some ⟨b, 0, none⟩, rows.length, cap⟩ ∧ (rows.flatten ++ rest).length = cap * n ∧ okFr (cap * n) fr ∧ h = Heap.one b (.cells (rows.flatten ++ rest).toArray T fr))
theorem OwnN.nil (h : Sat R Hs w) : Sat R (OwnN n ⟨none, 0, 0⟩ T [] :: Hs) w :=
  ⟨Heap.none, ⟨Wid.nil, .inl ⟨rfl, rfl, rfl⟩⟩, fun i hi => absurd rfl hi, by rw [Cx.add_none]; exact h⟩
theorem OwnN.of_pts {b cap : Nat} {fr : Nat × Nat} {rows : List (List Value)} {rest : List Value} (hwid : Wid n rows) (hl : (rows.flatten ++ rest).length = cap * n) (h : Sat R (pts b (.cells (rows.flatten ++ rest).toArray T fr) :: Hs) w)
    (hf : okFr (cap * n) fr := by first | assumption | exact Or.inl rfl) : Sat R (OwnN n ⟨some ⟨b, 0, none⟩, rows.length, cap⟩ T rows :: Hs) w :=
  let ⟨a, ha, hd, hs⟩ := h; ⟨a, ⟨hwid, .inr ⟨b, rest, fr, cap, rfl, hl, hf, ha⟩⟩, hd, hs⟩
theorem OwnN.cases {rows : List (List Value)} (h : Sat R (OwnN n s T rows :: Hs) w) : Wid n rows ∧
    ((s = ⟨none, 0, 0⟩ ∧ rows = [] ∧ Sat R Hs w) ∨ ∃ b rest fr cap, s = ⟨some ⟨b, 0, none⟩, rows.length, cap⟩ ∧ (rows.flatten ++ rest).length = cap * n ∧ okFr (cap * n) fr ∧ Sat R (pts b (.cells (rows.flatten ++ rest).toArray T fr) :: Hs) w) := by
  obtain ⟨a, ⟨hwid, ha⟩, hd, hs⟩ := h
  refine ⟨hwid, ?_⟩
  rcases ha with ⟨h1, h2, rfl⟩ | ⟨b, rest, fr, cap, h1, h3, hf, rfl⟩
  · rw [Cx.add_none] at hs; exact .inl ⟨h1, h2, hs⟩
  · exact .inr ⟨b, rest, fr, cap, h1, h3, hf, _, rfl, hd, hs⟩
theorem OwnN.wid {rows : List (List Value)} (h : Sat R (OwnN n s T rows :: Hs) w) : Wid n rows := (OwnN.cases h).1
theorem OwnN.len {rows : List (List Value)} (h : Sat R (OwnN n s T rows :: Hs) w) : s.len = rows.length := by
  rcases (OwnN.cases h).2 with ⟨rfl, rfl, _⟩ | ⟨b, rest, fr, cap, rfl, _, _⟩ <;> rfl
theorem OwnN.cap {rows : List (List Value)} (hn : 0 < n) (h : Sat R (OwnN n s T rows :: Hs) w) : s.len ≤ s.cap := by
  have hwid := (OwnN.cases h).1
  rcases (OwnN.cases h).2 with ⟨rfl, rfl, _⟩ | ⟨b, rest, fr, cap, rfl, hl, _⟩
  · exact Nat.le_refl _
  · rw [List.length_append, hwid.len] at hl
    simp only
    have : rows.length * n ≤ cap * n := by omega
    exact Nat.le_of_mul_le_mul_right this hn
def ReadsN (n : Nat) (s : Sl) (rows : List (List Value)) (S : World → Prop) : Prop :=
  s.len = rows.length ∧ ∀ k (hk : k < rows.length), ∃ b off, s.a = some ⟨b, off, none⟩ ∧ ∀ j vs, Pre vs (rows[k].drop j) → At S ⟨b, off + (k * n + j), none⟩ vs
theorem OwnN.reads {rows : List (List Value)} (hw : Sat R (OwnN n s T rows :: Hs) w) {S : World → Prop} {Hs'} (hS : ∀ w, S w → Sat R (OwnN n s T rows :: Hs') w) : ReadsN n s rows S := by
  refine ⟨OwnN.len hw, fun k hk => ?_⟩
  obtain ⟨hwid, ⟨_, rfl, _⟩ | ⟨b, rest, fr, cap, rfl, hl, _, _⟩⟩ := OwnN.cases hw
  · simp at hk
  · refine ⟨b, 0, rfl, fun j vs hp w hw i v hv => ?_⟩
    obtain ⟨_, ⟨h0, _, _⟩ | ⟨b', rest', fr', cap', he, _, _, h⟩⟩ := OwnN.cases (hS w hw)
    · cases h0
    · simp only [Sl.mk.injEq, Option.some.injEq, Addr.mk.injEq, and_true] at he
      obtain ⟨rfl, _⟩ := he
      have := (Wid.pre rest' hwid hk hp).get i v hv
      rw [List.getElem?_drop] at this
      rw [add_off, Nat.zero_add, cell_of h.at, this]
theorem ReadsN.rng {S : World → Prop} {rows : List (List Value)} (h : ReadsN n s rows S) {k : Nat} (hk : k < rows.length) {F : Addr → Prop} (f : ∀ b off, s.a = some ⟨b, off, none⟩ → (∀ j vs, Pre vs (rows[k].drop j) → At S ⟨b, off + (k * n + j), none⟩ vs) → F ⟨b, off, none⟩) :
    Rng (k : Int) s.len (NilP s.a F) := by
  obtain ⟨b, off, ha, hat⟩ := h.2 k hk
  have := h.1
  exact Rng.mk (by omega) (by omega) (NilP.mk ha (f b off ha hat))
theorem elt_addr (b off k n j : Nat) : (⟨(Addr.add ⟨b, off, none⟩ (mulS k n)).block, (Addr.add ⟨b, off, none⟩ (mulS k n)).off + j, none⟩ : Addr) = ⟨b, off + (k * n + j), none⟩ := by
  rw [add_off, mulS_eq]; simp only [Addr.mk.injEq, and_true, true_and]; omega
theorem elt_addr0 (b off k n : Nat) : Addr.add ⟨b, off, none⟩ (mulS k n) = ⟨b, off + (k * n + 0), none⟩ := by
  rw [add_off, mulS_eq]; rfl
theorem OwnN.store {rows : List (List Value)} {t : TypeId} {v : Value} {k j : Nat} {b off : Nat} {K : World → Prop} (hw : Sat R (OwnN n s T rows :: Hs) w) (ha : s.a = some ⟨b, off, none⟩) (hsz : (P.info? t).map (·.size) = some v.cells.toList.length) (h1 : oneAll v.cells.toList = true)
    (hk : k < rows.length) (hj : j + v.cells.toList.length ≤ n) (h : ∀ w', Sat R (OwnN n s T (rows.set k (putL rows[k] j v.cells.toList)) :: Hs) w' → K w') :
    ∃ w', (Instr.storeAt t (.pointer (some ⟨b, off + (k * n + j), none⟩)) v).run P w = .ok () w' ∧ K w' := by
  obtain ⟨hwid, ⟨rfl, _, _⟩ | ⟨b', rest, fr, cap, rfl, hl, hf, hp⟩⟩ := OwnN.cases hw
  · cases ha
  · simp only [Option.some.injEq, Addr.mk.injEq, and_true] at ha
    obtain ⟨rfl, rfl⟩ := ha
    have hlt : (k + 1) * n ≤ rows.length * n := Nat.mul_le_mul_right _ (by omega)
    rw [Nat.add_mul] at hlt
    have hll := hl
    rw [List.length_append, hwid.len] at hll
    rw [Nat.zero_add]
    refine store_rule hp hsz h1 (by rw [List.length_append, hwid.len]; omega) (fun w' h2 => h w' ?_) (by rw [hl]; exact hf)
    rw [putL_flat _ hwid hk hj] at h2
    have hl2 : (putL rows[k] j v.cells.toList).length = n := by rw [putL_len]; exact hwid _ (List.getElem_mem _)
    have := OwnN.of_pts (cap := cap) (hwid.set hl2) (by rw [← hl, List.length_append, List.length_append, (hwid.set hl2).len, List.length_set, hwid.len]) h2
    rw [List.length_set] at this
    exact this
structure RoN (n : Nat) (R : Cx) (s : Sl) (rows : List (List Value)) : Prop where
  wid : Wid n rows
  len : s.len = rows.length
  mem : rows ≠ [] → ∃ b off l T fr, s.a = some ⟨b, off, none⟩ ∧ R.m b = some (.cells l T fr) ∧ ∀ (i : Nat) v, rows.flatten[i]? = some v → l[off + i]? = some v
theorem RoN.add {h : Heap} {rows : List (List Value)} (hr : RoN n R s rows) : RoN n (R.add h) s rows :=
  ⟨hr.wid, hr.len, fun hx => let ⟨b, off, l, T, fr, ha, hb, hl⟩ := hr.mem hx; ⟨b, off, l, T, fr, ha, Cx.kept hb, hl⟩⟩
theorem RoN.reads {rows : List (List Value)} (hr : RoN n R s rows) {S : World → Prop} {Hs'} (hS : ∀ w, S w → Sat R Hs' w) : ReadsN n s rows S := by
  refine ⟨hr.len, fun k hk => ?_⟩
  obtain ⟨b, off, l, T, fr, ha, hb, hl⟩ := hr.mem (fun h => by rw [h] at hk; simp at hk)
  refine ⟨b, off, ha, fun j vs hp w hw i v hv => ?_⟩
  have h1 := (Wid.pre [] hr.wid hk hp).get i v hv
  rw [List.append_nil, List.getElem?_drop] at h1
  have := (hS w hw).of_ro hb
  rw [add_off]
  simp only [World.cell?, this, Option.isSome_none, Bool.false_eq_true, if_false]
  rw [Nat.add_assoc]
  exact hl _ _ h1
theorem OwnN.lend {rows : List (List Value)} (h : Sat R (OwnN n s T rows :: Hs) w) :
    ∃ R' : Cx, RoN n R' s rows ∧ (∃ x, R' = R.add x) ∧ Sat R' Hs w ∧ ∀ {Hs' w'}, Sat R' Hs' w' → Sat R (OwnN n s T rows :: Hs') w' := by
  obtain ⟨hwid, ⟨rfl, rfl, h2⟩ | ⟨b, rest, fr, cap, rfl, hl, hf, h2⟩⟩ := OwnN.cases h
  · exact ⟨R, ⟨hwid, rfl, fun h => absurd rfl h⟩, ⟨Heap.none, (Cx.add_none R).symm⟩, h2, fun h => OwnN.nil h⟩
  · obtain ⟨hn, h3⟩ := Sat.lend.1 h2
    refine ⟨_, ⟨hwid, rfl, fun _ => ⟨b, 0, _, T, fr, rfl, Cx.lent hn, fun i v hv => ?_⟩⟩, ⟨_, rfl⟩, h3, fun h => OwnN.of_pts hwid hl (Sat.lend.2 ⟨hn, h⟩)⟩
    obtain ⟨hi, rfl⟩ := List.getElem?_eq_some_iff.1 hv
    simp [List.getElem?_append_left hi]
theorem RoN.sub {rows : List (List Value)} (hr : RoN n R s rows) {l h m : Nat} (hlh : l ≤ h) (hh : h ≤ rows.length) (hm : m = l → h = l) : RoN n R ⟨cutA s.a l m n, h - l, m - l⟩ ((rows.take h).drop l) := by
  have hwid : Wid n ((rows.take h).drop l) := hr.wid.take.drop
  refine ⟨hwid, by simp; omega, fun hne => ?_⟩
  have hlt : l < h := by
    have : 0 < ((rows.take h).drop l).length := List.length_pos_iff.2 hne
    simp at this; omega
  obtain ⟨b, off, ls, T, fr, ha, hb, hl⟩ := hr.mem (fun h0 => by rw [h0] at hh; simp at hh; omega)
  refine ⟨b, off + l * n, ls, T, fr, ?_, hb, fun i v hv => ?_⟩
  · unfold cutA
    rw [if_neg (fun e => by have := hm e; omega), ha]
    simp [add_off]
  · rw [Nat.add_assoc]
    refine hl _ _ ?_
    have e1 : ((rows.take h).drop l).flatten = (rows.flatten.take (h * n)).drop (l * n) := by
      rw [hr.wid.take_flat, hr.wid.take.drop_flat]
    rw [e1, List.getElem?_drop] at hv
    rw [List.getElem?_take] at hv
    split at hv
    · exact hv
    · cases hv
theorem RoN.take {rows : List (List Value)} (hr : RoN n R s rows) {h : Nat} (hh : h ≤ rows.length) (c : Nat) : RoN n R ⟨s.a, h, c⟩ (rows.take h) :=
  ⟨hr.wid.take, by simp; omega, fun hne => by
    obtain ⟨b, off, ls, T, fr, ha, hb, hl⟩ := hr.mem (fun h0 => hne (by rw [h0]; simp))
    refine ⟨b, off, ls, T, fr, ha, hb, fun i v hv => hl _ _ ?_⟩
    rw [← hr.wid.take_flat, List.getElem?_take] at hv
    split at hv
    · exact hv
    · cases hv⟩
def elBN (P : Program) (T : TypeId) (n bytes : Nat) : Bool :=
  match P.info? T with
  | some i => match i.zero with
    | some z => i.size == n && i.bytes == bytes && z.cells.size == n
    | none => false
  | none => false
structure ElN (P : Program) (t1 t2 T : TypeId) (n bytes : Nat) : Prop where
  ht : P.underlying t1 = some (.slice T)
  hk : ∃ e', P.underlying t2 = some (.slice e')
  hi : elBN P T n bytes = true
theorem elBN_out {P : Program} {T : TypeId} {n bytes : Nat} (h : elBN P T n bytes = true) : ∃ i z, P.info? T = some i ∧ i.zero = some z ∧ i.size = n ∧ i.bytes = bytes ∧ z.cells.size = n := by
  unfold elBN at h
  split at h
  · rename_i i hi
    split at h
    · rename_i z hz
      simp only [Bool.and_eq_true, beq_iff_eq] at h
      exact ⟨i, z, hi, hz, h.1.1, h.1.2, h.2⟩
    · cases h
  · cases h
theorem appendN_rule {t1 t2 ty : TypeId} {bytes : Nat} (E : ElN P t1 t2 T n bytes) {rows ys : List (List Value)} {src : Value} {K : Sl → World → Prop}
    (hw : Sat R (OwnN n s T rows :: Hs) w) (hs : Src P n t2 src ys.length ys.flatten w) (hy : Wid n ys) (hb : 2 * (rows.length + ys.length) * bytes ≤ 281474976710656) (hb' : rows.length + ys.length ≤ 9223372036854775807)
    (k : ∀ s' w', Sat R (OwnN n s' T (rows ++ ys) :: Hs) w' → K s' w') :
    ∃ w', ∃ t : Sl, (Builtin.append_ #[t1, t2] ty #[.slice s.a s.len s.cap, src]).run P w = .ok (.slice t.a t.len t.cap) w' ∧ K t w' := by
  obtain ⟨i, z, hi, hz, hsize, hbytes, hzc⟩ := elBN_out E.hi
  have hs' : Src P i.size t2 src ys.length ys.flatten w := by rw [hsize]; exact hs
  have hlen := OwnN.len hw
  have hwid := OwnN.wid hw
  have hwid2 := hwid.app hy
  generalize hcn : ys.length = c at *
  have fit : ∀ cap, cap < rows.length + c → Builtin.nextslicecap (rows.length + c) cap * i.bytes ≤ 281474976710656 := fun cap hc => by
    have h2 : Builtin.nextslicecap (rows.length + c) cap ≤ 2 * (rows.length + c) := by
      unfold Builtin.nextslicecap
      split
      · omega
      · split
        · omega
        · have := nextslicecap_le_wide hc
          unfold Builtin.nextslicecap at this
          rw [if_neg (by assumption), if_neg (by assumption)] at this
          omega
    rw [hbytes]
    exact Nat.le_trans (Nat.mul_le_mul_right _ h2) hb
  -- a new row
  have grow : ∀ (base : Option Addr) (cap : Nat), cap < rows.length + c → (Builtin.firstCells i.size rows.length (.slice base rows.length cap)).run P w.drew = .ok rows.flatten.toArray w.drew → Sat R Hs w →
      ∃ w', ∃ t : Sl, (Builtin.append_ #[t1, t2] ty #[.slice base rows.length cap, src]).run P w = .ok (.slice t.a t.len t.cap) w' ∧ K t w' := fun base cap hc hold hw => by
    have hr := run_append_grow_src w t1 t2 ty T i z E.ht hi hz base rows.length cap rows.flatten hold src c ys.flatten hs' hc (by omega) (fit cap hc)
    refine ⟨_, ⟨some ⟨w.heap.size, 0, none⟩, rows.length + c, grownCap w (rows.length + c) cap T⟩, hr, k _ _ ?_⟩
    have hz0 : (Builtin.zeroCells z.cells (grownCap w (rows.length + c) cap T - (rows.length + c))).size = (grownCap w (rows.length + c) cap T - (rows.length + c)) * n := by
      simp [Builtin.zeroCells, hzc]
    have hg := grownCap_ge w (rows.length + c) cap T
    generalize hG : grownCap w (rows.length + c) cap T = G at *
    have ho' : Obj.cells ((rows.flatten ++ ys.flatten).toArray ++ Builtin.zeroCells z.cells (G - (rows.length + c))) T = .cells ((rows ++ ys).flatten ++ (Builtin.zeroCells z.cells (G - (rows.length + c))).toList).toArray T (0, 0) := by
      congr 1
      apply Array.ext'; simp
    have := Sat.alloc (Obj.cells ((rows.flatten ++ ys.flatten).toArray ++ Builtin.zeroCells z.cells (G - (rows.length + c))) T) (Sat.drew hw)
    rw [ho'] at this ⊢
    have hlenG : ((rows ++ ys).flatten ++ (Builtin.zeroCells z.cells (G - (rows.length + c))).toList).length = G * n := by
      have hz1 : (Builtin.zeroCells z.cells (G - (rows.length + c))).toList.length = (G - (rows.length + c)) * n := by rw [Array.length_toList]; exact hz0
      rw [List.length_append, hz1, hwid2.len, List.length_append, hcn, ← Nat.add_mul]
      congr 1; omega
    have h3 := OwnN.of_pts (cap := G) hwid2 hlenG this
    have e : (⟨some ⟨w.drew.heap.size, 0, none⟩, (rows ++ ys).length, G⟩ : Sl) = ⟨some ⟨w.heap.size, 0, none⟩, rows.length + c, G⟩ := by
      simp only [List.length_append, World.size_drew, hcn]
    rw [e] at h3
    exact h3
  obtain ⟨_, ⟨rfl, rfl, hz2⟩ | ⟨b, rest, fr, cap, rfl, hl, hfr, hp⟩⟩ := OwnN.cases hw
  · by_cases hn0 : c = 0
    · subst hn0
      have hy0 : ys = [] := List.length_eq_zero_iff.1 hcn
      subst hy0
      obtain ⟨e', he'⟩ := E.hk
      refine ⟨w, ⟨none, 0, 0⟩, ?_, k _ _ (by simpa using OwnN.nil hz2)⟩
      have hcz := hs'.cells
      simp [Builtin.append_, run_underlying E.ht, run_underlying he', sizeOf, typeInfo, hi, hs'.len, hcz]
    · exact grow none 0 (by simp; omega) (run_firstCells_none w.drew i.size 0 0 0) hz2
  · have hl0 := hl
    rw [List.length_append, hwid.len] at hl
    by_cases hroom : rows.length + c ≤ cap
    · have hat := hp.at
      have hcapn : (rows.length + c) * n ≤ cap * n := Nat.mul_le_mul_right _ hroom
      rw [Nat.add_mul] at hcapn
      have hyl : ys.flatten.length = c * n := by rw [hy.len, hcn]
      have hr := run_append_room_src w t1 t2 ty T i E.ht hi b 0 rows.length cap src c ys.flatten hs' hroom
        (fun j hj => by
          rw [cell_of hat, hsize, List.getElem?_eq_getElem (by rw [hl0]; omega)]; rfl) (fun j hj => frozen_no hat hfr (by rw [hsize]; omega))
      refine ⟨_, ⟨some ⟨b, 0, none⟩, rows.length + c, cap⟩, hr, k _ _ ?_⟩
      have h2 := setCells_sat ys.flatten (rows.flatten ++ rest) (rows.length * n) w hp
      have e1 : putL (rows.flatten ++ rest) (rows.length * n) ys.flatten = (rows ++ ys).flatten ++ rest.drop (c * n) := by
        rw [putL_eq _ _ _ (by rw [hyl, hl0]; omega), List.take_left' hwid.len, hyl, ← List.drop_drop, List.drop_left' hwid.len]
        simp
      rw [e1] at h2
      rw [hsize, Nat.zero_add]
      have h3 := OwnN.of_pts (cap := cap) hwid2 (by rw [List.length_append, hwid2.len, List.length_append, hcn, List.length_drop, Nat.add_mul]; omega) h2
      rw [List.length_append, hcn] at h3
      exact h3
    · have hat := hp.at
      refine grow (some ⟨b, 0, none⟩) cap (by omega) ?_ hp.drop
      refine run_firstCells_some w.drew i.size rows.length ⟨b, 0, none⟩ rows.length _ rows.flatten (by rw [hsize, hwid.len]) ?_
      intro j u hj
      rw [World.cell?_drew, add_off, cell_of hat, Nat.zero_add]
      obtain ⟨hlt, rfl⟩ := List.getElem?_eq_some_iff.1 hj
      simp [List.getElem?_append_left hlt]
theorem SrcN_one {t2 : TypeId} (hk : ∃ e', P.underlying t2 = some (.slice e')) {b : Nat} {x : List Value} {fr : Nat × Nat} (c : Nat)
    (hw : Sat R Hs w) [t : TakeP b Hs (.cells x.toArray T fr) Rest] (hx : x.length = n) (h1 : oneAll x = true) : Src P n t2 (.slice (some ⟨b, 0, none⟩) 1 c) [x].length [x].flatten w := by
  obtain ⟨e', he'⟩ := hk
  refine Go.Src.ofSlice w he' _ 1 c _ (by simp [hx]) ?_ ?_
  · intro j u hj
    have := hw.look b
    rw [add_off, cell_of this]; simpa using hj
  · intro u hu; simp at hu; exact List.all_eq_true.1 h1 u hu
theorem pushN_rule {t1 t2 ty T' : TypeId} {bytes : Nat} (E : ElN P t1 t2 T n bytes) {rows : List (List Value)} {x : List Value} {K : Sl → World → Prop}
    (hw : Sat R (OwnN n s T rows :: Hs) w) (hx : x.length = n) (h1 : oneAll x = true) (hb : 2 * (rows.length + 1) * bytes ≤ 281474976710656) (hb' : rows.length + 1 ≤ 9223372036854775807)
    (k : ∀ s' w', Sat R (OwnN n s' T (rows ++ [x]) :: Hs) w' → K s' w') :
    New (.cells x.toArray T' (0, 0)) (fun b w => ∃ w', ∃ t : Sl, (Builtin.append_ #[t1, t2] ty #[.slice s.a s.len s.cap, .slice (some ⟨b, 0, none⟩) 1 1]).run P w = .ok (.slice t.a t.len t.cap) w' ∧ K t w') w := by
  refine new_rule hw fun b w hw => ?_
  have hw : Sat R (pts b (.cells x.toArray T' (0, 0)) :: OwnN n s T rows :: Hs) w := hw
  exact appendN_rule E hw.swap (SrcN_one E.hk 1 hw hx h1) (Wid.one hx) hb hb' fun s' w' h => k s' w' h.swap.drop
theorem OwnN.empty {b : Nat} {fr : Nat × Nat} (h : Sat R (pts b (.cells #[] T fr) :: Hs) w) : Sat R (OwnN n ⟨some ⟨b, 0, none⟩, 0, 0⟩ T [] :: Hs) w :=
  OwnN.of_pts (rows := []) (rest := []) (cap := 0) Wid.nil (by simp) h (.inr (by simp))
structure Elt (n : Nat) (S : World → Prop) (a : Addr) (k : Nat) (row : List Value) : Prop where
  f : ∀ (j : Nat) {vs : List Value}, Pre vs (row.drop j) → At S ⟨(Addr.add a (mulS (k : Int).toNat n)).block, (Addr.add a (mulS (k : Int).toNat n)).off + j, none⟩ vs
  z : ∀ {vs : List Value}, Pre vs row → At S (Addr.add a (mulS (k : Int).toNat n)) vs
  zz : ∀ {vs : List Value}, Pre vs row → At S (Addr.add (Addr.add a (mulS (k : Int).toNat n)) 0) vs
theorem elt_addr00 (b off k n : Nat) : Addr.add (Addr.add ⟨b, off, none⟩ (mulS k n)) 0 = ⟨b, off + (k * n + 0), none⟩ := by
  rw [elt_addr0, add_off]; rfl
theorem ReadsN.rngM {α : Type} {E : List α} {g : α → List Value} {S : World → Prop} (h : ReadsN n s (E.map g) S) {k : Nat} (hk : k < E.length) {F : Addr → Prop} (f : ∀ a, s.a = some a → Elt n S a k (g E[k]) → F a) : Rng (k : Int) s.len (NilP s.a F) := by
  have hg : (E.map g)[k]'(by simpa using hk) = g E[k] := by simp
  refine h.rng (k := k) (by simpa using hk) fun b off ha hat => f _ ha ⟨fun j vs hp => ?_, fun hp => ?_, fun hp => ?_⟩
  · rw [Int.toNat_natCast, elt_addr]; exact hat j _ (by rw [hg]; exact hp)
  · rw [Int.toNat_natCast, elt_addr0]; exact hat 0 _ (by rw [hg]; exact hp)
  · rw [Int.toNat_natCast, elt_addr00]; exact hat 0 _ (by rw [hg]; exact hp)
class Arr (Hs Hs' : List HP) : Prop where
  perm : Hs.Perm Hs'
instance (priority := 2000) Arr.refl {Hs : List HP} : Arr Hs Hs := ⟨List.Perm.refl _⟩
instance Arr.cons {A : HP} {Hs Rest Hs' : List HP} [t : Take A Hs Rest] [r : Arr Rest Hs'] : Arr Hs (A :: Hs') := ⟨t.perm.trans (r.perm.cons A)⟩
theorem Sat.arr {Hs' : List HP} (h : Sat R Hs w) [a : Arr Hs Hs'] : Sat R Hs' w := h.perm a.perm
theorem Br.d {p : Prop} {inst : Decidable p} {A B : Prop} (h : p → A) (h' : ¬ p → B) : Br (@decide p inst) A B := Br.mk (fun e => h (of_decide_eq_true e)) (fun e => h' (of_decide_eq_false e))
theorem Br.nd {p : Prop} {inst : Decidable p} {A B : Prop} (h : ¬ p → A) (h' : p → B) : Br (!@decide p inst) A B := Br.mk (fun e => h (by simpa using e)) (fun e => h' (by simpa using e))
theorem Br.e {x y : Int} {A B : Prop} (h : x = y → A) (h' : ¬ x = y → B) : Br (x == y) A B := Br.mk (fun e => h (by simpa using e)) (fun e => h' (by simpa using e))
theorem Br.ne {x y : Int} {A B : Prop} (h : ¬ x = y → A) (h' : x = y → B) : Br (x != y) A B := Br.mk (fun e => h (by simpa using e)) (fun e => h' (by simpa using e))
theorem Br.nb {b : Bool} {A B : Prop} (h : b = false → A) (h' : b = true → B) : Br (!b) A B := Br.mk (fun e => h (by simpa using e)) (fun e => h' (by simpa using e))
theorem str_eql (a b : ByteArray) : (a.toList == b.toList) = decide (a = b) := by
  rw [ByteArray.toList_eq, ByteArray.toList_eq]
  by_cases h : a = b
  · simp [h]
  · have : a.data ≠ b.data := fun h2 => h (by cases a; cases b; simp_all)
    simp [h, this]
theorem Br.sne {x y : ByteArray} {A B : Prop} (h : ¬ x = y → A) (h' : x = y → B) : Br (!(x.toList == y.toList)) A B := by rw [str_eql]; exact Br.nd h h'
end Go.VC

/- SL, part 11: slices that are only read, as memory of one's own: lent, cut, given back. No condition. -/
namespace Go.VC
set_option linter.unusedVariables false
variable {P : Program} {R : Cx} {Hs Rest : List HP} {w : World} {s : Sl}
structure SlR (h : Heap) (s : Sl) (xs : List Value) : Prop where
  len : s.len = xs.length
  cap : s.len ≤ s.cap
  mem : xs ≠ [] → ∃ b off l T fr, s.a = some ⟨b, off, none⟩ ∧ h b = some (.cells l T fr) ∧ ∀ (i : Nat) v, xs[i]? = some v → l[off + i]? = some v
def Reads (s : Sl) (xs : List Value) : HP := fun h => SlR h s xs
theorem SlR.add {h h' : Heap} {xs : List Value} (a : SlR h s xs) : SlR (h.add h') s xs :=
  ⟨a.len, a.cap, fun hx => let ⟨b, off, l, T, fr, ha, hb, hl⟩ := a.mem hx; ⟨b, off, l, T, fr, ha, by simp only [Heap.add, hb], hl⟩⟩
theorem SlR.addR {h h' : Heap} {xs : List Value} (hd : h'.dis h) (a : SlR h s xs) : SlR (h'.add h) s xs :=
  ⟨a.len, a.cap, fun hx => let ⟨b, off, l, T, fr, ha, hb, hl⟩ := a.mem hx; ⟨b, off, l, T, fr, ha, by
    simp only [Heap.add, hd b (by rw [hb]; simp)]; exact hb, hl⟩⟩
theorem SlR.ro {xs : List Value} (a : SlR R.m s xs) (hb : xs.length ≤ 9223372036854775807) : Ro R s xs :=
  ⟨a.len, hb, a.mem⟩
theorem SlR.take {h : Heap} {xs : List Value} (a : SlR h s xs) {k : Nat} (hk : k ≤ xs.length) : SlR h ⟨s.a, k, s.cap⟩ (xs.take k) :=
  ⟨by simp; omega, by have := a.len; have := a.cap; simp only; omega, fun hx => by
    obtain ⟨b, off, l, T, fr, ha, hb, hl⟩ := a.mem (fun h0 => hx (by rw [h0]; simp))
    refine ⟨b, off, l, T, fr, ha, hb, fun i v hv => hl i v ?_⟩
    rw [List.getElem?_take] at hv
    split at hv
    · exact hv
    · cases hv⟩
theorem SlR.drop {h : Heap} {xs : List Value} (a : SlR h s xs) {k : Nat} (hk : k ≤ xs.length) : SlR h ⟨cutA s.a k s.cap 1, s.len - k, s.cap - k⟩ (xs.drop k) := by
  have hlen := a.len
  have hcap := a.cap
  refine ⟨by simp; omega, by simp only; omega, fun hx => ?_⟩
  obtain ⟨b, off, l, T, fr, ha, hb, hl⟩ := a.mem (fun h0 => hx (by rw [h0]; simp))
  have hlt : 0 < (xs.drop k).length := List.length_pos_iff.2 hx
  rw [List.length_drop] at hlt
  refine ⟨b, off + k, l, T, fr, ?_, hb, fun i v hv => ?_⟩
  · unfold cutA
    rw [if_neg (by omega), ha]
    simp [add_off]
  · rw [List.getElem?_drop] at hv
    rw [Nat.add_assoc]
    exact hl _ _ hv
theorem Reads.lend {xs : List Value} (h : Sat R (Reads s xs :: Hs) w) : ∃ x : Heap, R.dis x ∧ SlR (R.add x).m s xs ∧ Sat (R.add x) Hs w ∧ SlR x s xs := by
  obtain ⟨x, hx, hd, hs⟩ := h
  exact ⟨x, hd, SlR.addR hd hx, hs, hx⟩
theorem Reads.back {xs : List Value} {x : Heap} (hd : R.dis x) (hx : SlR x s xs) (h : Sat (R.add x) Hs w) : Sat R (Reads s xs :: Hs) w := ⟨x, hx, hd, h⟩
theorem Own.reads {T : TypeId} {xs : List Value} (h : Sat R (Own s T xs :: Hs) w) : Sat R (Reads s xs :: Hs) w := by
  rcases Own.cases h with ⟨rfl, rfl, h2⟩ | ⟨b, rest, fr, rfl, hf, h2⟩
  · exact ⟨Heap.none, ⟨rfl, Nat.le_refl _, fun h => absurd rfl h⟩, fun i hi => absurd rfl hi, by rw [Cx.add_none]; exact h2⟩
  · obtain ⟨a, ha, hd, hs⟩ := h2
    refine ⟨a, ⟨rfl, by simp, fun _ => ⟨b, 0, (xs ++ rest).toArray, T, fr, rfl, by rw [ha]; simp [Heap.one], fun i v hv => ?_⟩⟩, hd, hs⟩
    obtain ⟨hi, rfl⟩ := List.getElem?_eq_some_iff.1 hv
    simp [List.getElem?_append_left hi]
theorem SlR.idxK {kd : IntKind} {xs : List Int} {S : World → Prop} (hr : SlR R.m s (xs.map (Value.int kd))) (hS : ∀ w, S w → Sat R Hs w) {k : Nat} (hk : k < xs.length) {F : Int → Prop} (h : F xs[k]) :
    Rng (k : Int) s.len (NilP s.a fun a => ∃ t : Int, (At S (a.add (k : Int).toNat) [.int kd t]) ∧ F t) := by
  have hl : s.len = xs.length := by have := hr.len; simpa using this
  obtain ⟨b, off, l, T, fr, ha, hb, hel⟩ := hr.mem (by intro h0; rw [List.map_eq_nil_iff] at h0; rw [h0] at hk; simp at hk)
  refine Rng.mk (by omega) (by omega) (NilP.mk ha ⟨xs[k], fun w hw i v hv => ?_, h⟩)
  have hi : i = 0 := by
    cases i with
    | zero => rfl
    | succ i => simp at hv
  subst hi
  simp only [List.getElem?_cons_zero, Option.some.injEq] at hv
  subst hv
  rw [Int.toNat_natCast, add_off, add_off]
  have := (hS w hw).of_ro hb
  simp only [World.cell?, this, Option.isSome_none, Bool.false_eq_true, if_false]
  exact hel k _ (by simp [hk])
end Go.VC
/- Slices of bytes: Clone. No condition. -/
namespace Go.Proofs.YtfgbbckfikiomaaGreatDoor
set_option linter.unusedVariables false
open Go Go.VC
variable {R : Cx} {Hs Rest : List HP} {w : World}
theorem _root_.Go.VC.Sat.re {A : HP} (B : HP) (h : Sat R (A :: Hs) w) (e : A = B := by rfl) : Sat R (B :: Hs) w := e ▸ h
abbrev b8 (l : List Int) : List Value := l.map (Value.int .u8)
end Go.Proofs.YtfgbbckfikiomaaGreatDoor
/- Codes of numbers and of bytes, plain. No program. No condition. -/
namespace Go.VC
set_option linter.unusedVariables false
def dig (n : Nat) : List Int := if h : n = 0 then [] else dig (n / 256) ++ [((n % 256 : Nat) : Int)]
termination_by n
decreasing_by omega
theorem dig_zero : dig 0 = [] := by unfold dig; simp
theorem dig_pos {n : Nat} (h : n ≠ 0) : dig n = dig (n / 256) ++ [((n % 256 : Nat) : Int)] := by
  conv => lhs; unfold dig
  rw [dif_neg h]
def valI (acc : Int) (l : List Int) : Int := l.foldl (fun a b => a * 256 + b) acc
theorem valI_cons (acc b : Int) (l : List Int) : valI acc (b :: l) = valI (acc * 256 + b) l := rfl
theorem valI_app (acc : Int) (a b : List Int) : valI acc (a ++ b) = valI (valI acc a) b := List.foldl_append
theorem valI_snoc (acc : Int) (a : List Int) (b : Int) : valI acc (a ++ [b]) = valI acc a * 256 + b := by rw [valI_app]; rfl
theorem valI_nn : ∀ {l : List Int} {acc : Int}, 0 ≤ acc → (∀ x ∈ l, 0 ≤ x ∧ x < 256) → 0 ≤ valI acc l
  | [], _, h, _ => h
  | b :: l, acc, h, hb => by
    rw [valI_cons]
    have := hb b List.mem_cons_self
    exact valI_nn (by omega) fun x hx => hb x (List.mem_cons_of_mem _ hx)
theorem valI_lt : ∀ {l : List Int} {acc : Int}, 0 ≤ acc → (∀ x ∈ l, 0 ≤ x ∧ x < 256) → valI acc l < (acc + 1) * 256 ^ l.length
  | [], acc, h, _ => by simp [valI]; omega
  | b :: l, acc, h, hb => by
    rw [valI_cons]
    have h1 := hb b List.mem_cons_self
    have := valI_lt (l := l) (acc := acc * 256 + b) (by omega) fun x hx => hb x (List.mem_cons_of_mem _ hx)
    refine Int.lt_of_lt_of_le this ?_
    rw [List.length_cons, Int.pow_succ, Int.mul_comm (256 ^ l.length) 256, ← Int.mul_assoc]
    exact Int.mul_le_mul_of_nonneg_right (by omega) (Int.le_of_lt (Int.pow_pos (by decide)))
theorem dig_val (n : Nat) : valI 0 (dig n) = n := by
  induction n using Nat.strongRecOn with
  | ind n ih =>
    by_cases h : n = 0
    · subst h; rw [dig_zero]; rfl
    · rw [dig_pos h, valI_snoc, ih (n / 256) (by omega)]; omega
theorem dig_bd (n : Nat) : ∀ x ∈ dig n, 0 ≤ x ∧ x < 256 := by
  induction n using Nat.strongRecOn with
  | ind n ih =>
    by_cases h : n = 0
    · subst h; rw [dig_zero]; intro x hx; cases hx
    · rw [dig_pos h]
      intro x hx
      rcases List.mem_append.1 hx with hx | hx
      · exact ih (n / 256) (by omega) x hx
      · simp at hx; omega
theorem dig_head (n : Nat) : ∀ x l, dig n = x :: l → x ≠ 0 := by
  induction n using Nat.strongRecOn with
  | ind n ih =>
    intro x l hx
    by_cases h : n = 0
    · subst h; rw [dig_zero] at hx; cases hx
    · rw [dig_pos h] at hx
      by_cases h2 : n / 256 = 0
      · rw [h2, dig_zero] at hx
        simp at hx
        omega
      · cases hd : dig (n / 256) with
        | nil => rw [dig_pos h2] at hd; simp at hd
        | cons y l' =>
          rw [hd] at hx
          simp at hx
          obtain ⟨rfl, _⟩ := hx
          exact ih (n / 256) (by omega) _ _ hd
theorem dig_len_le : ∀ (k n : Nat), n < 256 ^ k → (dig n).length ≤ k
  | 0, n, h => by
    have : n = 0 := by simpa using h
    subst this; rw [dig_zero]; simp
  | k + 1, n, h => by
    by_cases h0 : n = 0
    · subst h0; rw [dig_zero]; simp
    · rw [dig_pos h0, List.length_append]
      have := dig_len_le k (n / 256) (by rw [Nat.pow_succ] at h; exact Nat.div_lt_of_lt_mul (by rwa [Nat.mul_comm] at h))
      simp; omega
theorem dig_len8 {n : Nat} (h : n < 18446744073709551616) : (dig n).length ≤ 8 := dig_len_le 8 n (by simpa using h)
def numB (n : Nat) : List Int := ((dig n).length : Int) :: dig n
theorem numB_bd {n : Nat} (h : n < 18446744073709551616) : ∀ x ∈ numB n, 0 ≤ x ∧ x < 256 := by
  intro x hx
  rcases List.mem_cons.1 hx with rfl | hx
  · have := dig_len8 h; omega
  · exact dig_bd n x hx
theorem numB_len {n : Nat} (h : n < 18446744073709551616) : (numB n).length ≤ 9 := by
  have := dig_len8 h; unfold numB; simp; omega
def parse (l : List Int) : Option (Int × Bool × Nat) :=
  match l with
  | [] => none
  | k :: rest =>
    let neg := decide (16 ≤ k)
    let w := (if 16 ≤ k then k - 16 else k).toNat
    if k < 32 ∧ w ≤ 8 ∧ w ≤ rest.length ∧ (w = 0 → k = 0) ∧ (w ≠ 0 → rest.head? ≠ some 0) then some (valI 0 (rest.take w), neg, w + 1) else none
theorem parse_num {n : Nat} (h : n < 18446744073709551616) (rest : List Int) : parse (numB n ++ rest) = some ((n : Int), false, (numB n).length) := by
  have h8 := dig_len8 h
  unfold parse numB
  simp only [List.cons_append]
  have e1 : ¬ (16 : Int) ≤ ((dig n).length : Int) := by omega
  rw [if_neg e1]
  rw [if_pos]
  · simp only [Int.toNat_natCast, List.take_left', dig_val, List.length_cons, Option.some.injEq, Prod.mk.injEq, and_true, true_and]
    simpa using e1
  · refine ⟨by omega, by omega, by simp, fun h0 => by omega, fun h0 => ?_⟩
    simp only [Int.toNat_natCast] at h0
    cases hd : dig n with
    | nil => rw [hd] at h0; simp at h0
    | cons x l =>
      have := dig_head n x l hd
      simp; exact this
theorem parse_bd {l : List Int} {n : Int} {neg : Bool} {k : Nat} (hb : ∀ x ∈ l, 0 ≤ x ∧ x < 256) (h : parse l = some (n, neg, k)) : 0 ≤ n ∧ n < 18446744073709551616 ∧ 1 ≤ k ∧ k ≤ 9 ∧ k ≤ l.length := by
  unfold parse at h
  split at h
  · cases h
  · rename_i c rest
    simp only at h
    generalize hw : (if 16 ≤ c then c - 16 else c).toNat = w at h
    split at h
    · rename_i hc
      obtain ⟨_, h8, hr, _, _⟩ := hc
      simp only [Option.some.injEq, Prod.mk.injEq] at h
      obtain ⟨rfl, _, rfl⟩ := h
      have hb2 : ∀ x ∈ rest.take w, 0 ≤ x ∧ x < 256 := fun x hx => hb x (List.mem_cons_of_mem _ (List.mem_of_mem_take hx))
      refine ⟨valI_nn (Int.le_refl _) hb2, ?_, by omega, by omega, by simp; omega⟩
      refine Int.lt_of_lt_of_le (valI_lt (Int.le_refl _) hb2) ?_
      rw [List.length_take, Nat.min_eq_left hr, Int.zero_add, Int.one_mul]
      have h9 : 256 ^ w ≤ 256 ^ 8 := Nat.pow_le_pow_right (by omega) h8
      have : ((256 ^ w : Nat) : Int) ≤ ((256 ^ 8 : Nat) : Int) := Int.ofNat_le.2 h9
      rw [Int.natCast_pow] at this
      exact Int.le_trans this (by decide)
    · cases h
structure Rd where
  bs : List Int
  bad : Bool
def rdNum (most : Int) (r : Rd) : Int × Rd :=
  if r.bad then (0, r) else match parse r.bs with
  | some (n, neg, k) => if neg = false ∧ n ≤ most then (n, ⟨r.bs.drop k, false⟩) else (0, ⟨r.bs, true⟩)
  | none => (0, ⟨r.bs, true⟩)
def rdWhole (r : Rd) : Bool := !r.bad && decide (r.bs.length = 0)
end Go.VC
/- Package field: numbers and bytes as bytes. Condition: bounds on lengths. -/
namespace Go.Proofs.YtfgbbckfikiomaaGreatDoor
set_option linter.unusedVariables false
open Go Go.VC
variable {R : Cx} {Hs Rest : List HP} {w : World}
theorem _root_.Go.VC.SlR.mono {h h' : Heap} {s : Sl} {xs : List Value} (hs : ∀ b o, h b = some o → h' b = some o) (a : SlR h s xs) : SlR h' s xs :=
  ⟨a.len, a.cap, fun hx => let ⟨b, off, l, T, fr, ha, hb, hl⟩ := a.mem hx; ⟨b, off, l, T, fr, ha, hs _ _ hb, hl⟩⟩
abbrev lp (l : Nat) (s : Sl) : HP := pts l (.cells [.slice s.a s.len s.cap].toArray 42 (0, 0))
end Go.Proofs.YtfgbbckfikiomaaGreatDoor
/- Package field: Number; reading in general. Condition: none. -/
namespace Go.Proofs.YtfgbbckfikiomaaGreatDoor
set_option linter.unusedVariables false
open Go Go.VC
variable {R : Cx} {Hs Rest : List HP} {w : World}
abbrev rdCells (s : Sl) (bad : Bool) : Obj := .cells [.slice s.a s.len s.cap, .bool bad].toArray 188 (0, 0)
def RdAt (r : Nat) (rd : Rd) : HP := exs fun s : Sl => Star [pts r (rdCells s rd.bad), Reads s (b8 rd.bs)]
theorem Sat.rd {r : Nat} {rd : Rd} : Sat R (RdAt r rd :: Hs) w ↔ ∃ s : Sl, Sat R (pts r (rdCells s rd.bad) :: Reads s (b8 rd.bs) :: Hs) w := by
  unfold RdAt
  rw [Sat.exs]
  exact ⟨fun ⟨s, h⟩ => ⟨s, Sat.star.1 h⟩, fun ⟨s, h⟩ => ⟨s, Sat.star.2 h⟩⟩
end Go.Proofs.YtfgbbckfikiomaaGreatDoor
/- Package field: a reader's New, Number, Whole. Condition: bounds on lengths. -/
namespace Go.Proofs.YtfgbbckfikiomaaGreatDoor
set_option linter.unusedVariables false
open Go Go.VC
variable {R : Cx} {Hs Rest : List HP} {w : World}
theorem CalW.mk {g : FuncId} {captured : Array Value} {args : List Value} {Q : Ending → World → Prop} (hc : cl g = true) (h : Calls Tryz.prog g (args ++ captured.toList).toArray w Q) : CalW Tryz.prog cl (.func (.func g) #[] captured) args w Q := by
  unfold CalW
  simp only [hc]
  exact h
theorem rdNum_bd {most : Int} {rd : Rd} (hb : ∀ x ∈ rd.bs, 0 ≤ x ∧ x < 256) : ∀ x ∈ (rdNum most rd).2.bs, 0 ≤ x ∧ x < 256 := by
  unfold rdNum
  split
  · exact hb
  · split
    · split
      · exact fun x hx => hb x (List.mem_of_mem_drop hx)
      · exact hb
    · exact hb
theorem rdNum_val {most : Int} {rd : Rd} (hb : ∀ x ∈ rd.bs, 0 ≤ x ∧ x < 256) (hm : 0 ≤ most) : 0 ≤ (rdNum most rd).1 ∧ (rdNum most rd).1 ≤ most := by
  unfold rdNum
  split
  · exact ⟨Int.le_refl _, hm⟩
  · split
    · rename_i n neg k hp
      split
      · rename_i h; exact ⟨(parse_bd hb hp).1, h.2⟩
      · exact ⟨Int.le_refl _, hm⟩
    · exact ⟨Int.le_refl _, hm⟩
end Go.Proofs.YtfgbbckfikiomaaGreatDoor

/- SL, part 13: appends of integers; new arrays as slices of one's own. Condition: bounds on lengths. -/
namespace Go.VC
set_option linter.unusedVariables false
variable {P : Program} {R : Cx} {Hs Rest : List HP} {w : World} {s t : Sl} {T T2 : TypeId}
theorem oneAll_k (k : IntKind) (xs : List Int) : oneAll (xs.map (Value.int k)) = true := by
  induction xs with
  | nil => rfl
  | cons x xs ih => simp only [List.map_cons, oneAll, List.all_cons, Bool.and_eq_true]; exact ⟨rfl, ih⟩
theorem own_lit {b n : Nat} {l : List Value} {fr : Nat × Nat} (hw : Sat R (pts b (.cells l.toArray T fr) :: Hs) w) (hn : n = l.length := by rfl) (hf : okFr l.length fr := by first | assumption | exact Or.inl rfl) : Sat R (Own ⟨some ⟨b, 0, none⟩, n, n⟩ T l :: Hs) w := by
  subst hn
  have := Own.of_pts (xs := l) (rest := []) (by simpa using hw) (by simpa using hf)
  simpa using this
theorem appendRI {t1 t2 ty e' : TypeId} {bytes n : Nat} {k : IntKind} (E : El P t1 t2 T bytes) {xs ys : List Int} {K : Sl → World → Prop} (h2 : P.underlying t2 = some (.slice e'))
    (hw : Sat R (Own s T (xs.map (Value.int k)) :: Hs) w) (hy : Ro R t (ys.map (Value.int k))) (hn : xs.length + ys.length ≤ n) (hb : 2 * n * bytes ≤ 281474976710656) (hb' : n ≤ 9223372036854775807)
    (kk : ∀ s' w', Sat R (Own s' T ((xs ++ ys).map (Value.int k)) :: Hs) w' → K s' w') :
    ∃ w', ∃ t' : Sl, (Builtin.append_ #[t1, t2] ty #[.slice s.a s.len s.cap, .slice t.a t.len t.cap]).run P w = .ok (.slice t'.a t'.len t'.cap) w' ∧ K t' w' := by
  have hsrc : Src P 1 t2 (.slice t.a t.len t.cap) ys.length (ys.map (Value.int k)) w := by
    have := srcRo h2 hw hy (oneAll_k _ _)
    simpa using this
  refine append_rule E (s := s) hw hsrc (oneAll_k _ _) ?_ (by rw [List.length_map]; omega) fun s2 w hw => kk s2 w (by simpa using hw)
  rw [List.length_map]
  have : 2 * (xs.length + ys.length) * bytes ≤ 2 * n * bytes := Nat.mul_le_mul_right _ (by omega)
  omega
theorem Ro.ix {k : IntKind} {xs : List Int} {S : World → Prop} {i : Int} (hr : Ro R s (xs.map (Value.int k))) (hS : ∀ w, S w → Sat R Hs w) (j : Nat) (hi : i = j) (hj : j < xs.length) {F : Int → Prop} (h : F xs[j]) :
    Rng i s.len (NilP s.a fun a => ∃ t : Int, (At S (a.add i.toNat) [.int k t]) ∧ F t) := by
  subst hi
  exact hr.idxK hS hj h
theorem SlR.ix {k : IntKind} {xs : List Int} {S : World → Prop} {i : Int} (hr : SlR R.m s (xs.map (Value.int k))) (hS : ∀ w, S w → Sat R Hs w) (j : Nat) (hi : i = j) (hj : j < xs.length) {F : Int → Prop} (h : F xs[j]) :
    Rng i s.len (NilP s.a fun a => ∃ t : Int, (At S (a.add i.toNat) [.int k t]) ∧ F t) := by
  subst hi
  exact hr.idxK hS hj h
end Go.VC
/- SL, part 14: memory of one's own, made into memory that is only read, for good. No condition. -/
namespace Go.VC
set_option linter.unusedVariables false
variable {P : Program} {R R' R'' : Cx} {Hs Rest : List HP} {w : World} {s : Sl} {T : TypeId}
structure Cx.Ext (R R' : Cx) : Prop where
  m : ∀ b o, R.m b = some o → R'.m b = some o
  like : R'.like R
theorem Cx.Ext.refl : R.Ext R := ⟨fun _ _ h => h, rfl, rfl, rfl⟩
theorem Cx.Ext.trans (h : R.Ext R') (h' : R'.Ext R'') : R.Ext R'' :=
  ⟨fun b o hb => h'.m b o (h.m b o hb), h.like.1.trans h'.like.1, h.like.2.1.trans h'.like.2.1, h.like.2.2.trans h'.like.2.2⟩
theorem Cx.Ext.add {h : Heap} : R.Ext (R.add h) := ⟨fun b o hb => by simp only [Cx.add, Heap.add, hb], rfl, rfl, rfl⟩
theorem Cx.Ext.back (h : R.Ext R') (hw : Sat R' Hs w) : Sat R Hs w := Sat.ro_of h.m h.like hw
theorem Cx.Ext.ro {xs : List Value} (h : R.Ext R') (a : Ro R s xs) : Ro R' s xs :=
  ⟨a.len, a.bound, fun hx => let ⟨b, off, l, T, fr, h1, h2, h3⟩ := a.mem hx; ⟨b, off, l, T, fr, h1, h.m _ _ h2, h3⟩⟩
theorem Cx.Ext.roN {n : Nat} {xs : List (List Value)} (h : R.Ext R') (a : RoN n R s xs) : RoN n R' s xs :=
  ⟨a.wid, a.len, fun hx => let ⟨b, off, l, T, fr, h1, h2, h3⟩ := a.mem hx; ⟨b, off, l, T, fr, h1, h.m _ _ h2, h3⟩⟩
theorem Cx.Ext.slR {xs : List Value} (h : R.Ext R') (a : SlR R.m s xs) : SlR R'.m s xs :=
  ⟨a.len, a.cap, fun hx => let ⟨b, off, l, T, fr, h1, h2, h3⟩ := a.mem hx; ⟨b, off, l, T, fr, h1, h.m _ _ h2, h3⟩⟩
theorem Reads.leak {xs : List Value} (h : Sat R (Reads s xs :: Hs) w) : ∃ R' : Cx, R.Ext R' ∧ SlR R'.m s xs ∧ Sat R' Hs w := by
  obtain ⟨x, _, h1, h2, _⟩ := Reads.lend h
  exact ⟨_, .add, h1, h2⟩
theorem Own.leak {xs : List Value} (h : Sat R (Own s T xs :: Hs) w) : ∃ R' : Cx, R.Ext R' ∧ SlR R'.m s xs ∧ Sat R' Hs w := Reads.leak (Own.reads h)
theorem OwnN.leak {n : Nat} {rows : List (List Value)} (h : Sat R (OwnN n s T rows :: Hs) w) : ∃ R' : Cx, R.Ext R' ∧ RoN n R' s rows ∧ Sat R' Hs w := by
  obtain ⟨R', h1, ⟨x, rfl⟩, h2, _⟩ := OwnN.lend h
  exact ⟨_, .add, h1, h2⟩
theorem pts.leak {b : Nat} {o : Obj} (h : Sat R (pts b o :: Hs) w) : ∃ R' : Cx, R.Ext R' ∧ R'.m b = some o ∧ Sat R' Hs w := by
  obtain ⟨h1, h2⟩ := Sat.lend.1 h
  exact ⟨_, .add, Cx.lent h1, h2⟩
end Go.VC
/- The formulas of functions of this seat's translation, printed by a program of mine off the translation; each is proved equal to 'fnF' of the function's body, so it is enough for the call. No condition. -/
namespace Go.Proofs.YtfgbbckfikiomaaGreatDoor
open Go Go.VC
set_option linter.unusedVariables false
set_option maxRecDepth 10000
def B172 (s0 : Sl) (K : Value → World → Prop) (w : World) : Prop :=
  Br s0.a.isNone
   (K (.slice none 0 0) w)
   (New (.cells #[] 3 (0, 0)) (fun b_t5 w_1 =>
    ∃ w_2 : World, ∃ t7 : Sl, ((Builtin.append_ #[28, 28] 28 #[.slice ((some ⟨b_t5, 0, none⟩)) 0 0, .slice s0.a s0.len s0.cap]).run Tryz.prog w_1 = .ok (.slice t7.a t7.len t7.cap) w_2) ∧
    K (.slice t7.a t7.len t7.cap) w_2) w)
def sk172 : Sk := .leaf
theorem ok172 : fnOk Tryz.prog Tryz.f172.ntmps Tryz.f172 sk172 = true := by kernel_rfl
theorem eq172 (s0 : Sl) (K : Value → World → Prop) (w : World) : fnF Tryz.prog cl Tryz.f172 sk172 [.slice s0.a s0.len s0.cap] K w = B172 s0 K w := by kernel_rfl
theorem call172 (s0 : Sl) (K : Value → World → Prop) (w : World) (h : B172 s0 K w) : Gets Tryz.prog 172 #[.slice s0.a s0.len s0.cap] w K :=
  calls_of (sk := sk172) cl_ok mixed Tryz.func172 ok172 (args := [.slice s0.a s0.len s0.cap]) (Nat.le_of_ble_eq_true (by kernel_rfl)) (by rw [eq172]; exact h)
def B216 (s0 : Sl) (f1 : Value) (K : Value → World → Prop) (w : World) : Prop :=
  Calls Tryz.prog 257 #[.slice s0.a s0.len s0.cap, f1] w fun e w_1 =>
  ∃ t7 : Int, (e = .returned (.int .i64 t7)) ∧
  K (.bool (decide (t7 ≥ 0))) w_1
def sk216 : Sk := .leaf
theorem ok216 : fnOk Tryz.prog Tryz.f216.ntmps Tryz.f216 sk216 = true := by kernel_rfl
theorem eq216 (s0 : Sl) (f1 : Value) (K : Value → World → Prop) (w : World) : fnF Tryz.prog cl Tryz.f216 sk216 [.slice s0.a s0.len s0.cap, f1] K w = B216 s0 f1 K w := by kernel_rfl
theorem call216 (s0 : Sl) (f1 : Value) (K : Value → World → Prop) (w : World) (h : B216 s0 f1 K w) : Gets Tryz.prog 216 #[.slice s0.a s0.len s0.cap, f1] w K :=
  calls_of (sk := sk216) cl_ok mixed Tryz.func216 ok216 (args := [.slice s0.a s0.len s0.cap, f1]) (Nat.le_of_ble_eq_true (by kernel_rfl)) (by rw [eq216]; exact h)
def B257 (s0 : Sl) (f1 : Value) (K : Value → World → Prop) (w : World) : Prop :=
  ∃ (I : Int → World → Prop) (μ : Int → World → Nat), (I 0 w) ∧ ∀ (z : Env) (t8 : Int) (w_1 : World), I t8 w_1 →
  Br (decide (t8 < (↑s0.len : Int)))
   (Rng t8 s0.len (NilP s0.a fun a_t14 =>
    ∃ t15 : Int, (At (fun w' => w' = w_1) (Addr.add a_t14 t8.toNat) [.int .i64 t15]) ∧
    CalW Tryz.prog cl f1 [.int .i64 t15] w_1 fun e w_2 =>
    ∃ t16 : Bool, (e = .returned (.bool t16)) ∧
    Br t16
     (K (.int .i64 t8) w_2)
     ((I (IntKind.i64.wrap (t8 + 1)) w_2) ∧ μ (IntKind.i64.wrap (t8 + 1)) w_2 < μ t8 w_1)))
   (K (.int .i64 ((-1))) w_1)
def sk257 : Sk := (.seq .leaf (.seq (.seq .leaf (.block (.loop [8] [(.int .i64)] [4, 5, 8, 9, 10, 11, 12, 13, 14, 15, 16, 17, 18] .leaf))) .leaf))
theorem ok257 : fnOk Tryz.prog Tryz.f257.ntmps Tryz.f257 sk257 = true := by kernel_rfl
theorem eq257 (s0 : Sl) (f1 : Value) (K : Value → World → Prop) (w : World) : fnF Tryz.prog cl Tryz.f257 sk257 [.slice s0.a s0.len s0.cap, f1] K w = B257 s0 f1 K w := by kernel_rfl
theorem call257 (s0 : Sl) (f1 : Value) (K : Value → World → Prop) (w : World) (h : B257 s0 f1 K w) : Gets Tryz.prog 257 #[.slice s0.a s0.len s0.cap, f1] w K :=
  calls_of (sk := sk257) cl_ok mixed Tryz.func257 ok257 (args := [.slice s0.a s0.len s0.cap, f1]) (Nat.le_of_ble_eq_true (by kernel_rfl)) (by rw [eq257]; exact h)
def B236 (s0 : Sl) (i1 : Int) (v2 : Sl) (K : Value → World → Prop) (w : World) : Prop :=
  ((0 : Int) ≤ i1) ∧
  ((i1 : Int) ≤ (↑s0.len : Int)) ∧
  Br ((↑v2.len : Int) == 0)
   (K (.slice s0.a s0.len s0.cap) w)
   (Br (i1 == (↑s0.len : Int))
     (∃ w_1 : World, ∃ t25 : Sl, ((Builtin.append_ #[28, 28] 28 #[.slice s0.a s0.len s0.cap, .slice v2.a v2.len v2.cap]).run Tryz.prog w = .ok (.slice t25.a t25.len t25.cap) w_1) ∧
      K (.slice t25.a t25.len t25.cap) w_1)
     (Br (decide (IntKind.i64.wrap ((↑s0.len : Int) + (↑v2.len : Int)) > (↑s0.cap : Int)))
       (((0 : Int) ≤ i1) ∧
        ((i1 : Int) ≤ (↑s0.cap : Int)) ∧
        ∃ w_2 : World, ∃ t40 : Sl, ((Builtin.append_ #[28, 3] 28 #[.slice s0.a i1.toNat s0.cap, .int .i64 (IntKind.i64.wrap (IntKind.i64.wrap ((↑s0.len : Int) + (↑v2.len : Int)) - i1))]).run Tryz.prog w = .ok (.slice t40.a t40.len t40.cap) w_2) ∧
        ((0 : Int) ≤ i1) ∧
        ((i1 : Int) ≤ (↑t40.len : Int)) ∧
        ∃ w_3 : World, ∃ t45 : Int, ((Builtin.copy_ #[28, 28] 3 #[.slice (cutA t40.a i1.toNat t40.cap 1) (t40.len - i1.toNat) (t40.cap - i1.toNat), .slice v2.a v2.len v2.cap]).run Tryz.prog w_2 = .ok (.int .i64 t45) w_3) ∧
        Drw w_3 fun S w_4 =>
        ((0 : Int) ≤ IntKind.i64.wrap (i1 + (↑v2.len : Int))) ∧
        ((IntKind.i64.wrap (i1 + (↑v2.len : Int)) : Int) ≤ (↑t40.len : Int)) ∧
        ((0 : Int) ≤ i1) ∧
        ((i1 : Int) ≤ (↑s0.len : Int)) ∧
        ∃ w_5 : World, ∃ t54 : Int, ((Builtin.copy_ #[28, 28] 3 #[.slice (cutA t40.a (IntKind.i64.wrap (i1 + (↑v2.len : Int))).toNat t40.cap 1) (t40.len - (IntKind.i64.wrap (i1 + (↑v2.len : Int))).toNat) (t40.cap - (IntKind.i64.wrap (i1 + (↑v2.len : Int))).toNat), .slice (cutA s0.a i1.toNat s0.cap 1) (s0.len - i1.toNat) (s0.cap - i1.toNat)]).run Tryz.prog w_4 = .ok (.int .i64 t54) w_5) ∧
        K (.slice t40.a t40.len t40.cap) w_5)
       (((0 : Int) ≤ IntKind.i64.wrap ((↑s0.len : Int) + (↑v2.len : Int))) ∧
        ((IntKind.i64.wrap ((↑s0.len : Int) + (↑v2.len : Int)) : Int) ≤ (↑s0.cap : Int)) ∧
        ((0 : Int) ≤ IntKind.i64.wrap (i1 + (↑v2.len : Int))) ∧
        ((IntKind.i64.wrap (i1 + (↑v2.len : Int)) : Int) ≤ (↑(IntKind.i64.wrap ((↑s0.len : Int) + (↑v2.len : Int))).toNat : Int)) ∧
        Ext Tryz.prog 264 #[.slice v2.a v2.len v2.cap, .slice (cutA s0.a (IntKind.i64.wrap (i1 + (↑v2.len : Int))).toNat s0.cap 1) ((IntKind.i64.wrap ((↑s0.len : Int) + (↑v2.len : Int))).toNat - (IntKind.i64.wrap (i1 + (↑v2.len : Int))).toNat) (s0.cap - (IntKind.i64.wrap (i1 + (↑v2.len : Int))).toNat)] w fun e w_6 =>
        ∃ t67 : Bool, (e = .returned (.bool t67)) ∧
        Br (!t67)
         (Drw w_6 fun S_1 w_7 =>
          ((0 : Int) ≤ IntKind.i64.wrap (i1 + (↑v2.len : Int))) ∧
          ((IntKind.i64.wrap (i1 + (↑v2.len : Int)) : Int) ≤ (↑(IntKind.i64.wrap ((↑s0.len : Int) + (↑v2.len : Int))).toNat : Int)) ∧
          ((0 : Int) ≤ i1) ∧
          ((i1 : Int) ≤ (↑(IntKind.i64.wrap ((↑s0.len : Int) + (↑v2.len : Int))).toNat : Int)) ∧
          ∃ w_8 : World, ∃ t77 : Int, ((Builtin.copy_ #[28, 28] 3 #[.slice (cutA s0.a (IntKind.i64.wrap (i1 + (↑v2.len : Int))).toNat s0.cap 1) ((IntKind.i64.wrap ((↑s0.len : Int) + (↑v2.len : Int))).toNat - (IntKind.i64.wrap (i1 + (↑v2.len : Int))).toNat) (s0.cap - (IntKind.i64.wrap (i1 + (↑v2.len : Int))).toNat), .slice (cutA s0.a i1.toNat s0.cap 1) ((IntKind.i64.wrap ((↑s0.len : Int) + (↑v2.len : Int))).toNat - i1.toNat) (s0.cap - i1.toNat)]).run Tryz.prog w_7 = .ok (.int .i64 t77) w_8) ∧
          ((0 : Int) ≤ i1) ∧
          ((i1 : Int) ≤ (↑(IntKind.i64.wrap ((↑s0.len : Int) + (↑v2.len : Int))).toNat : Int)) ∧
          ∃ w_9 : World, ∃ t82 : Int, ((Builtin.copy_ #[28, 28] 3 #[.slice (cutA s0.a i1.toNat s0.cap 1) ((IntKind.i64.wrap ((↑s0.len : Int) + (↑v2.len : Int))).toNat - i1.toNat) (s0.cap - i1.toNat), .slice v2.a v2.len v2.cap]).run Tryz.prog w_8 = .ok (.int .i64 t82) w_9) ∧
          K (.slice s0.a ((IntKind.i64.wrap ((↑s0.len : Int) + (↑v2.len : Int))).toNat) s0.cap) w_9)
         (((0 : Int) ≤ (↑s0.len : Int)) ∧
          (((↑s0.len : Int) : Int) ≤ (↑(IntKind.i64.wrap ((↑s0.len : Int) + (↑v2.len : Int))).toNat : Int)) ∧
          ∃ w_10 : World, ∃ t88 : Int, ((Builtin.copy_ #[28, 28] 3 #[.slice (cutA s0.a (↑s0.len : Int).toNat s0.cap 1) ((IntKind.i64.wrap ((↑s0.len : Int) + (↑v2.len : Int))).toNat - (↑s0.len : Int).toNat) (s0.cap - (↑s0.len : Int).toNat), .slice v2.a v2.len v2.cap]).run Tryz.prog w_6 = .ok (.int .i64 t88) w_10) ∧
          ((0 : Int) ≤ i1) ∧
          ((i1 : Int) ≤ (↑(IntKind.i64.wrap ((↑s0.len : Int) + (↑v2.len : Int))).toNat : Int)) ∧
          Calls Tryz.prog 265 #[.slice (cutA s0.a i1.toNat s0.cap 1) ((IntKind.i64.wrap ((↑s0.len : Int) + (↑v2.len : Int))).toNat - i1.toNat) (s0.cap - i1.toNat), .int .i64 ((↑v2.len : Int))] w_10 fun e_1 w_11 =>
          (e_1 = .returned (.tuple #[])) ∧
          K (.slice s0.a ((IntKind.i64.wrap ((↑s0.len : Int) + (↑v2.len : Int))).toNat) s0.cap) w_11))))
def sk236 : Sk := .leaf
theorem ok236 : fnOk Tryz.prog Tryz.f236.ntmps Tryz.f236 sk236 = true := by kernel_rfl
theorem eq236 (s0 : Sl) (i1 : Int) (v2 : Sl) (K : Value → World → Prop) (w : World) : fnF Tryz.prog cl Tryz.f236 sk236 [.slice s0.a s0.len s0.cap, .int .i64 i1, .slice v2.a v2.len v2.cap] K w = B236 s0 i1 v2 K w := by kernel_rfl
theorem call236 (s0 : Sl) (i1 : Int) (v2 : Sl) (K : Value → World → Prop) (w : World) (h : B236 s0 i1 v2 K w) : Gets Tryz.prog 236 #[.slice s0.a s0.len s0.cap, .int .i64 i1, .slice v2.a v2.len v2.cap] w K :=
  calls_of (sk := sk236) cl_ok mixed Tryz.func236 ok236 (args := [.slice s0.a s0.len s0.cap, .int .i64 i1, .slice v2.a v2.len v2.cap]) (Nat.le_of_ble_eq_true (by kernel_rfl)) (by rw [eq236]; exact h)
def B235 (x0 : Sl) (target1 : Int) (K : Value → World → Prop) (w : World) : Prop :=
  ∃ (I : Int → Int → World → Prop) (μ : Int → Int → World → Nat), (I 0 ((↑x0.len : Int)) w) ∧ ∀ (z : Env) (i7 : Int) (j8 : Int) (w_1 : World), I i7 j8 w_1 →
  Br (decide (i7 < j8))
   (Rng (IntKind.i64.wrap (shrI IntKind.u64 (IntKind.u64.wrap (IntKind.i64.wrap (i7 + j8))) 1)) x0.len (NilP x0.a fun a_t24 =>
    ∃ t25 : Int, (At (fun w' => w' = w_1) (Addr.add a_t24 ((IntKind.i64.wrap (shrI IntKind.u64 (IntKind.u64.wrap (IntKind.i64.wrap (i7 + j8))) 1)).toNat)) [.int .i64 t25]) ∧
    Calls Tryz.prog 249 #[.int .i64 t25, .int .i64 target1] w_1 fun e w_2 =>
    ∃ t27 : Bool, (e = .returned (.bool t27)) ∧
    Br t27
     ((I (IntKind.i64.wrap (IntKind.i64.wrap (shrI IntKind.u64 (IntKind.u64.wrap (IntKind.i64.wrap (i7 + j8))) 1) + 1)) j8 w_2) ∧ μ (IntKind.i64.wrap (IntKind.i64.wrap (shrI IntKind.u64 (IntKind.u64.wrap (IntKind.i64.wrap (i7 + j8))) 1) + 1)) j8 w_2 < μ i7 j8 w_1)
     ((I i7 (IntKind.i64.wrap (shrI IntKind.u64 (IntKind.u64.wrap (IntKind.i64.wrap (i7 + j8))) 1)) w_2) ∧ μ i7 (IntKind.i64.wrap (shrI IntKind.u64 (IntKind.u64.wrap (IntKind.i64.wrap (i7 + j8))) 1)) w_2 < μ i7 j8 w_1)))
   (Br (decide (i7 < (↑x0.len : Int)))
     (Rng i7 x0.len (NilP x0.a fun a_t38 =>
      ∃ t39 : Int, (At (fun w' => w' = w_1) (Addr.add a_t38 i7.toNat) [.int .i64 t39]) ∧
      Br (t39 == target1)
       (K (.tuple #[.int .i64 i7, .bool true]) w_1)
       (Rng i7 x0.len (NilP x0.a fun a_t45 =>
        ∃ t46 : Int, (At (fun w' => w' = w_1) (Addr.add a_t45 i7.toNat) [.int .i64 t46]) ∧
        Calls Tryz.prog 263 #[.int .i64 t46] w_1 fun e_1 w_3 =>
        ∃ t47 : Bool, (e_1 = .returned (.bool t47)) ∧
        Br t47
         (Calls Tryz.prog 263 #[.int .i64 target1] w_3 fun e_2 w_4 =>
          ∃ t50 : Bool, (e_2 = .returned (.bool t50)) ∧
          K (.tuple #[.int .i64 i7, .bool t50]) w_4)
         (K (.tuple #[.int .i64 i7, .bool false]) w_3)))))
     (K (.tuple #[.int .i64 i7, .bool false]) w_1))
def sk235 : Sk := (.seq .leaf (.seq .leaf (.seq .leaf (.seq (.block (.loop [7, 8] [(.int .i64), (.int .i64)] [7, 8, 9, 13, 14, 15, 16, 17, 18, 19, 20, 21, 22, 23, 24, 25, 26, 27, 28, 29, 30] .leaf)) .leaf))))
theorem ok235 : fnOk Tryz.prog Tryz.f235.ntmps Tryz.f235 sk235 = true := by kernel_rfl
theorem eq235 (x0 : Sl) (target1 : Int) (K : Value → World → Prop) (w : World) : fnF Tryz.prog cl Tryz.f235 sk235 [.slice x0.a x0.len x0.cap, .int .i64 target1] K w = B235 x0 target1 K w := by kernel_rfl
theorem call235 (x0 : Sl) (target1 : Int) (K : Value → World → Prop) (w : World) (h : B235 x0 target1 K w) : Gets Tryz.prog 235 #[.slice x0.a x0.len x0.cap, .int .i64 target1] w K :=
  calls_of (sk := sk235) cl_ok mixed Tryz.func235 ok235 (args := [.slice x0.a x0.len x0.cap, .int .i64 target1]) (Nat.le_of_ble_eq_true (by kernel_rfl)) (by rw [eq235]; exact h)
def B249 (x0 : Int) (y1 : Int) (K : Value → World → Prop) (w : World) : Prop :=
  Calls Tryz.prog 259 #[.int .i64 x0] w fun e w_1 =>
  ∃ t6 : Bool, (e = .returned (.bool t6)) ∧
  Br t6
   (Calls Tryz.prog 259 #[.int .i64 y1] w_1 fun e_1 w_2 =>
    ∃ t9 : Bool, (e_1 = .returned (.bool t9)) ∧
    Br (!t9)
     (K (.bool true) w_2)
     (K (.bool (decide (x0 < y1))) w_2))
   (K (.bool (decide (x0 < y1))) w_1)
def sk249 : Sk := .leaf
theorem ok249 : fnOk Tryz.prog Tryz.f249.ntmps Tryz.f249 sk249 = true := by kernel_rfl
theorem eq249 (x0 : Int) (y1 : Int) (K : Value → World → Prop) (w : World) : fnF Tryz.prog cl Tryz.f249 sk249 [.int .i64 x0, .int .i64 y1] K w = B249 x0 y1 K w := by kernel_rfl
theorem call249 (x0 : Int) (y1 : Int) (K : Value → World → Prop) (w : World) (h : B249 x0 y1 K w) : Gets Tryz.prog 249 #[.int .i64 x0, .int .i64 y1] w K :=
  calls_of (sk := sk249) cl_ok mixed Tryz.func249 ok249 (args := [.int .i64 x0, .int .i64 y1]) (Nat.le_of_ble_eq_true (by kernel_rfl)) (by rw [eq249]; exact h)
def B263 (x0 : Int) (K : Value → World → Prop) (w : World) : Prop :=
  K (.bool (x0 != x0)) w
def sk263 : Sk := .leaf
theorem ok263 : fnOk Tryz.prog Tryz.f263.ntmps Tryz.f263 sk263 = true := by kernel_rfl
theorem eq263 (x0 : Int) (K : Value → World → Prop) (w : World) : fnF Tryz.prog cl Tryz.f263 sk263 [.int .i64 x0] K w = B263 x0 K w := by kernel_rfl
theorem call263 (x0 : Int) (K : Value → World → Prop) (w : World) (h : B263 x0 K w) : Gets Tryz.prog 263 #[.int .i64 x0] w K :=
  calls_of (sk := sk263) cl_ok mixed Tryz.func263 ok263 (args := [.int .i64 x0]) (Nat.le_of_ble_eq_true (by kernel_rfl)) (by rw [eq263]; exact h)
def B259 (x0 : Int) (K : Value → World → Prop) (w : World) : Prop :=
  K (.bool (x0 != x0)) w
def sk259 : Sk := .leaf
theorem ok259 : fnOk Tryz.prog Tryz.f259.ntmps Tryz.f259 sk259 = true := by kernel_rfl
theorem eq259 (x0 : Int) (K : Value → World → Prop) (w : World) : fnF Tryz.prog cl Tryz.f259 sk259 [.int .i64 x0] K w = B259 x0 K w := by kernel_rfl
theorem call259 (x0 : Int) (K : Value → World → Prop) (w : World) (h : B259 x0 K w) : Gets Tryz.prog 259 #[.int .i64 x0] w K :=
  calls_of (sk := sk259) cl_ok mixed Tryz.func259 ok259 (args := [.int .i64 x0]) (Nat.le_of_ble_eq_true (by kernel_rfl)) (by rw [eq259]; exact h)
def B160 (l0_0 : Int) (l0_1 : Sl) (K : Value → World → Prop) (w : World) : Prop :=
  New (.cells #[.int .i64 l0_0, .slice l0_1.a l0_1.len l0_1.cap] 35 (0, 0)) (fun b_l1 w_1 =>
  ∃ t5 : Int, (At (fun w' => w' = w_1) ⟨b_l1, 0, none⟩ [.int .i64 t5]) ∧
  Br (decide (t5 < 1))
   (K (.bool false) w_1)
   (∃ t9 : Int, (At (fun w' => w' = w_1) ⟨b_l1, 0, none⟩ [.int .i64 t9]) ∧
    Br (decide (t9 > 60))
     (K (.bool false) w_1)
     (∃ t14 : Sl, (At (fun w' => w' = w_1) ⟨b_l1, 0 + 1, none⟩ [.slice t14.a t14.len t14.cap]) ∧
      Br (decide ((↑t14.len : Int) < 1))
       (K (.bool false) w_1)
       (∃ t20 : Sl, (At (fun w' => w' = w_1) ⟨b_l1, 0 + 1, none⟩ [.slice t20.a t20.len t20.cap]) ∧
        Br (decide ((↑t20.len : Int) > 4))
         (K (.bool false) w_1)
         (∃ t26 : Sl, (At (fun w' => w' = w_1) ⟨b_l1, 0 + 1, none⟩ [.slice t26.a t26.len t26.cap]) ∧
          Calls Tryz.prog 216 #[.slice t26.a t26.len t26.cap, .func (.func 215) #[] #[]] w_1 fun e w_2 =>
          ∃ t28 : Bool, (e = .returned (.bool t28)) ∧
          Br t28
           (K (.bool false) w_2)
           (∃ t30 : Int, ∃ t30_1 : Sl, (At (fun w' => w' = w_2) ⟨b_l1, 0, none⟩ [.int .i64 t30, .slice t30_1.a t30_1.len t30_1.cap]) ∧
            Calls Tryz.prog 217 #[.agg #[.int .i64 t30, .slice t30_1.a t30_1.len t30_1.cap]] w_2 fun e_1 w_3 =>
            ∃ t31 : Int, (e_1 = .returned (.int .i64 t31)) ∧
            K (.bool (decide (t31 ≤ 10))) w_3)))))) w
def sk160 : Sk := .leaf
theorem ok160 : fnOk Tryz.prog Tryz.f160.ntmps Tryz.f160 sk160 = true := by kernel_rfl
theorem eq160 (l0_0 : Int) (l0_1 : Sl) (K : Value → World → Prop) (w : World) : fnF Tryz.prog cl Tryz.f160 sk160 [.agg #[.int .i64 l0_0, .slice l0_1.a l0_1.len l0_1.cap]] K w = B160 l0_0 l0_1 K w := by kernel_rfl
theorem call160 (l0_0 : Int) (l0_1 : Sl) (K : Value → World → Prop) (w : World) (h : B160 l0_0 l0_1 K w) : Gets Tryz.prog 160 #[.agg #[.int .i64 l0_0, .slice l0_1.a l0_1.len l0_1.cap]] w K :=
  calls_of (sk := sk160) cl_ok mixed Tryz.func160 ok160 (args := [.agg #[.int .i64 l0_0, .slice l0_1.a l0_1.len l0_1.cap]]) (Nat.le_of_ble_eq_true (by kernel_rfl)) (by rw [eq160]; exact h)
def B215 (g0 : Int) (K : Value → World → Prop) (w : World) : Prop :=
  Br (decide (g0 < 1))
   (K (.bool true) w)
   (K (.bool (decide (g0 > 10))) w)
def sk215 : Sk := .leaf
theorem ok215 : fnOk Tryz.prog Tryz.f215.ntmps Tryz.f215 sk215 = true := by kernel_rfl
theorem eq215 (g0 : Int) (K : Value → World → Prop) (w : World) : fnF Tryz.prog cl Tryz.f215 sk215 [.int .i64 g0] K w = B215 g0 K w := by kernel_rfl
theorem call215 (g0 : Int) (K : Value → World → Prop) (w : World) (h : B215 g0 K w) : Gets Tryz.prog 215 #[.int .i64 g0] w K :=
  calls_of (sk := sk215) cl_ok mixed Tryz.func215 ok215 (args := [.int .i64 g0]) (Nat.le_of_ble_eq_true (by kernel_rfl)) (by rw [eq215]; exact h)
def B217 (l0_0 : Int) (l0_1 : Sl) (K : Value → World → Prop) (w : World) : Prop :=
  New (.cells #[.int .i64 l0_0, .slice l0_1.a l0_1.len l0_1.cap] 35 (0, 0)) (fun b_l1 w_1 =>
  ∃ t7 : Sl, (At (fun w' => w' = w_1) ⟨b_l1, 0 + 1, none⟩ [.slice t7.a t7.len t7.cap]) ∧
  ∃ (I : Int → Int → World → Prop) (μ : Int → Int → World → Nat), (I 0 0 w_1) ∧ ∀ (z : Env) (n3 : Int) (t9 : Int) (w_2 : World), I n3 t9 w_2 →
  Br (decide (t9 < (↑t7.len : Int)))
   (Rng t9 t7.len (NilP t7.a fun a_t11 =>
    ∃ t12 : Int, (At (fun w' => w' = w_2) (Addr.add a_t11 t9.toNat) [.int .i64 t12]) ∧
    (I (IntKind.i64.wrap (n3 + t12)) (IntKind.i64.wrap (t9 + 1)) w_2) ∧ μ (IntKind.i64.wrap (n3 + t12)) (IntKind.i64.wrap (t9 + 1)) w_2 < μ n3 t9 w_2))
   (K (.int .i64 n3) w_2)) w
def sk217 : Sk := (.seq .leaf (.seq .leaf (.seq (.seq .leaf (.block (.loop [3, 9] [(.int .i64), (.int .i64)] [3, 5, 9, 10, 11, 12, 13, 14, 15, 16] .leaf))) .leaf)))
theorem ok217 : fnOk Tryz.prog Tryz.f217.ntmps Tryz.f217 sk217 = true := by kernel_rfl
theorem eq217 (l0_0 : Int) (l0_1 : Sl) (K : Value → World → Prop) (w : World) : fnF Tryz.prog cl Tryz.f217 sk217 [.agg #[.int .i64 l0_0, .slice l0_1.a l0_1.len l0_1.cap]] K w = B217 l0_0 l0_1 K w := by kernel_rfl
theorem call217 (l0_0 : Int) (l0_1 : Sl) (K : Value → World → Prop) (w : World) (h : B217 l0_0 l0_1 K w) : Gets Tryz.prog 217 #[.agg #[.int .i64 l0_0, .slice l0_1.a l0_1.len l0_1.cap]] w K :=
  calls_of (sk := sk217) cl_ok mixed Tryz.func217 ok217 (args := [.agg #[.int .i64 l0_0, .slice l0_1.a l0_1.len l0_1.cap]]) (Nat.le_of_ble_eq_true (by kernel_rfl)) (by rw [eq217]; exact h)
def B162 (l0_0 : Int) (l0_1 : Sl) (K : Value → World → Prop) (w : World) : Prop :=
  New (.cells #[.int .i64 l0_0, .slice l0_1.a l0_1.len l0_1.cap] 35 (0, 0)) (fun b_l1 w_1 =>
  ∃ t3 : Int, ∃ t3_1 : Sl, (At (fun w' => w' = w_1) ⟨b_l1, 0, none⟩ [.int .i64 t3, .slice t3_1.a t3_1.len t3_1.cap]) ∧
  Calls Tryz.prog 160 #[.agg #[.int .i64 t3, .slice t3_1.a t3_1.len t3_1.cap]] w_1 fun e w_2 =>
  ∃ t4 : Bool, (e = .returned (.bool t4)) ∧
  Br (!t4)
   (K (.int .i64 0) w_2)
   (Drw w_2 fun S w_3 =>
    ∃ t7 : Int, (At S ⟨b_l1, 0, none⟩ [.int .i64 t7]) ∧
    ∃ t8 : Int, ∃ t8_1 : Sl, (At S ⟨b_l1, 0, none⟩ [.int .i64 t8, .slice t8_1.a t8_1.len t8_1.cap]) ∧
    Calls Tryz.prog 217 #[.agg #[.int .i64 t8, .slice t8_1.a t8_1.len t8_1.cap]] w_3 fun e_1 w_4 =>
    ∃ t9 : Int, (e_1 = .returned (.int .i64 t9)) ∧
    (S w_4) ∧
    K (.int .i64 (IntKind.i64.wrap (t7 * t9))) w_4)) w
def sk162 : Sk := .leaf
theorem ok162 : fnOk Tryz.prog Tryz.f162.ntmps Tryz.f162 sk162 = true := by kernel_rfl
theorem eq162 (l0_0 : Int) (l0_1 : Sl) (K : Value → World → Prop) (w : World) : fnF Tryz.prog cl Tryz.f162 sk162 [.agg #[.int .i64 l0_0, .slice l0_1.a l0_1.len l0_1.cap]] K w = B162 l0_0 l0_1 K w := by kernel_rfl
theorem call162 (l0_0 : Int) (l0_1 : Sl) (K : Value → World → Prop) (w : World) (h : B162 l0_0 l0_1 K w) : Gets Tryz.prog 162 #[.agg #[.int .i64 l0_0, .slice l0_1.a l0_1.len l0_1.cap]] w K :=
  calls_of (sk := sk162) cl_ok mixed Tryz.func162 ok162 (args := [.agg #[.int .i64 l0_0, .slice l0_1.a l0_1.len l0_1.cap]]) (Nat.le_of_ble_eq_true (by kernel_rfl)) (by rw [eq162]; exact h)
def B237 (l0_0 : Int) (l0_1 : Sl) (n1 : Int) (K : Value → World → Prop) (w : World) : Prop :=
  New (.cells #[.int .i64 l0_0, .slice l0_1.a l0_1.len l0_1.cap] 35 (0, 0)) (fun b_l2 w_1 =>
  Br (decide (n1 ≥ 0))
   (∃ t9 : Int, ∃ t9_1 : Sl, (At (fun w' => w' = w_1) ⟨b_l2, 0, none⟩ [.int .i64 t9, .slice t9_1.a t9_1.len t9_1.cap]) ∧
    Calls Tryz.prog 162 #[.agg #[.int .i64 t9, .slice t9_1.a t9_1.len t9_1.cap]] w_1 fun e w_2 =>
    ∃ t10 : Int, (e = .returned (.int .i64 t10)) ∧
    K (.bool (decide (n1 < t10))) w_2)
   (K (.bool false) w_1)) w
def sk237 : Sk := .leaf
theorem ok237 : fnOk Tryz.prog Tryz.f237.ntmps Tryz.f237 sk237 = true := by kernel_rfl
theorem eq237 (l0_0 : Int) (l0_1 : Sl) (n1 : Int) (K : Value → World → Prop) (w : World) : fnF Tryz.prog cl Tryz.f237 sk237 [.agg #[.int .i64 l0_0, .slice l0_1.a l0_1.len l0_1.cap], .int .i64 n1] K w = B237 l0_0 l0_1 n1 K w := by kernel_rfl
theorem call237 (l0_0 : Int) (l0_1 : Sl) (n1 : Int) (K : Value → World → Prop) (w : World) (h : B237 l0_0 l0_1 n1 K w) : Gets Tryz.prog 237 #[.agg #[.int .i64 l0_0, .slice l0_1.a l0_1.len l0_1.cap], .int .i64 n1] w K :=
  calls_of (sk := sk237) cl_ok mixed Tryz.func237 ok237 (args := [.agg #[.int .i64 l0_0, .slice l0_1.a l0_1.len l0_1.cap], .int .i64 n1]) (Nat.le_of_ble_eq_true (by kernel_rfl)) (by rw [eq237]; exact h)
def B240 (l0_0 : Int) (l0_1 : Sl) (n1 : Int) (K : Value → World → Prop) (w : World) : Prop :=
  New (.cells #[.int .i64 l0_0, .slice l0_1.a l0_1.len l0_1.cap] 35 (0, 0)) (fun b_l2 w_1 =>
  ∃ t7 : Int, ∃ t7_1 : Sl, (At (fun w' => w' = w_1) ⟨b_l2, 0, none⟩ [.int .i64 t7, .slice t7_1.a t7_1.len t7_1.cap]) ∧
  Calls Tryz.prog 237 #[.agg #[.int .i64 t7, .slice t7_1.a t7_1.len t7_1.cap], .int .i64 n1] w_1 fun e w_2 =>
  ∃ t9 : Bool, (e = .returned (.bool t9)) ∧
  Br (!t9)
   (K (.tuple #[.string (ByteArray.mk #[]), .int .i64 1]) w_2)
   (∃ t11 : Int, ∃ t11_1 : Sl, (At (fun w' => w' = w_2) ⟨b_l2, 0, none⟩ [.int .i64 t11, .slice t11_1.a t11_1.len t11_1.cap]) ∧
    Calls Tryz.prog 217 #[.agg #[.int .i64 t11, .slice t11_1.a t11_1.len t11_1.cap]] w_2 fun e_1 w_3 =>
    ∃ t12 : Int, (e_1 = .returned (.int .i64 t12)) ∧
    Drw w_3 fun S w_4 =>
    Nz t12 (Nz t12 (Nz t12 (((0 : Int) ≤ IntKind.i64.wrap (n1.tmod t12 + 1)) ∧
    ((IntKind.i64.wrap (n1.tmod t12 + 1) : Int) ≤ 10) ∧
    ((0 : Int) ≤ n1.tmod t12) ∧
    ((n1.tmod t12 : Int) ≤ (↑(IntKind.i64.wrap (n1.tmod t12 + 1)).toNat : Int)) ∧
    Calls Tryz.prog 266 #[.int .i64 (IntKind.i64.wrap (IntKind.i64.wrap (n1.tdiv t12) + 1))] w_4 fun e_2 w_5 =>
    ∃ t17 : ByteArray, (e_2 = .returned (.string t17)) ∧
    (((↑(t17.size + ((ByteArray.mk #[65, 66, 67, 68, 69, 70, 71, 72, 74, 75]).extract (n1.tmod t12).toNat (IntKind.i64.wrap (n1.tmod t12 + 1)).toNat).size) : Int) : Int) ≤ 9223372036854775807) ∧
    K (.tuple #[.string (t17 ++ (ByteArray.mk #[65, 66, 67, 68, 69, 70, 71, 72, 74, 75]).extract (n1.tmod t12).toNat (IntKind.i64.wrap (n1.tmod t12 + 1)).toNat), .int .i64 0]) w_5))))) w
def sk240 : Sk := .leaf
theorem ok240 : fnOk Tryz.prog Tryz.f240.ntmps Tryz.f240 sk240 = true := by kernel_rfl
theorem eq240 (l0_0 : Int) (l0_1 : Sl) (n1 : Int) (K : Value → World → Prop) (w : World) : fnF Tryz.prog cl Tryz.f240 sk240 [.agg #[.int .i64 l0_0, .slice l0_1.a l0_1.len l0_1.cap], .int .i64 n1] K w = B240 l0_0 l0_1 n1 K w := by kernel_rfl
theorem call240 (l0_0 : Int) (l0_1 : Sl) (n1 : Int) (K : Value → World → Prop) (w : World) (h : B240 l0_0 l0_1 n1 K w) : Gets Tryz.prog 240 #[.agg #[.int .i64 l0_0, .slice l0_1.a l0_1.len l0_1.cap], .int .i64 n1] w K :=
  calls_of (sk := sk240) cl_ok mixed Tryz.func240 ok240 (args := [.agg #[.int .i64 l0_0, .slice l0_1.a l0_1.len l0_1.cap], .int .i64 n1]) (Nat.le_of_ble_eq_true (by kernel_rfl)) (by rw [eq240]; exact h)
def B234 (l0_0 : Int) (l0_1 : Sl) (label1 : ByteArray) (K : Value → World → Prop) (w : World) : Prop :=
  New (.cells #[.int .i64 l0_0, .slice l0_1.a l0_1.len l0_1.cap] 35 (0, 0)) (fun b_l2 w_1 =>
  ∃ t10 : Int, ∃ t10_1 : Sl, (At (fun w' => w' = w_1) ⟨b_l2, 0, none⟩ [.int .i64 t10, .slice t10_1.a t10_1.len t10_1.cap]) ∧
  Calls Tryz.prog 160 #[.agg #[.int .i64 t10, .slice t10_1.a t10_1.len t10_1.cap]] w_1 fun e w_2 =>
  ∃ t11 : Bool, (e = .returned (.bool t11)) ∧
  Br (!t11)
   (K (.tuple #[.int .i64 0, .int .i64 1]) w_2)
   (New (.stringIter label1 0) (fun b_t14 w_3 =>
    ∃ (I : Int → Int → World → Prop) (μ : Int → Int → World → Nat), (I 0 ((-1)) w_3) ∧ ∀ (z : Env) (row6 : Int) (last7 : Int) (w_4 : World), I row6 last7 w_4 →
    NextS ((some ⟨b_t14, 0, none⟩)) (fun i c w_5 =>
      ∃ (J : Bool → World → Prop), (Br (decide (last7 ≥ 0))
         (J true w_5)
         (Br (i == 0)
           (Br (c == 48)
             (J true w_5)
             (J (decide (row6 > 60)) w_5))
           (J (decide (row6 > 60)) w_5))) ∧
      ∀ (z_1 : Env) (t23 : Bool) (w_6 : World), J t23 w_6 →
      Br t23
       (K (.tuple #[.int .i64 0, .int .i64 2]) w_6)
       (∃ (J_1 : Bool → World → Prop), (Br (decide (c ≥ 48))
           (J_1 (decide (c ≤ 57)) w_6)
           (J_1 false w_6)) ∧
        ∀ (z_2 : Env) (t38 : Bool) (w_7 : World), J_1 t38 w_7 →
        Br t38
         ((I (IntKind.i64.wrap (IntKind.i64.wrap (10 * row6) + IntKind.i64.wrap (IntKind.i32.wrap (c - 48)))) last7 w_7) ∧ μ (IntKind.i64.wrap (IntKind.i64.wrap (10 * row6) + IntKind.i64.wrap (IntKind.i32.wrap (c - 48)))) last7 w_7 < μ row6 last7 w_4)
         (Calls Tryz.prog 262 #[.int .i32 c] w_7 fun e_1 w_8 =>
          ∃ t20 : Int, (e_1 = .returned (.int .i64 t20)) ∧
          Br (decide (t20 < 0))
           (K (.tuple #[.int .i64 0, .int .i64 2]) w_8)
           ((I row6 t20 w_8) ∧ μ row6 t20 w_8 < μ row6 last7 w_4))))
     (fun w_9 =>
      Br (decide (row6 < 1))
       (K (.tuple #[.int .i64 0, .int .i64 2]) w_9)
       (∃ t56 : Int, (At (fun w' => w' = w_9) ⟨b_l2, 0, none⟩ [.int .i64 t56]) ∧
        Br (decide (row6 > t56))
         (K (.tuple #[.int .i64 0, .int .i64 2]) w_9)
         (Br (decide (last7 < 0))
           (K (.tuple #[.int .i64 0, .int .i64 2]) w_9)
           (∃ t65 : Int, ∃ t65_1 : Sl, (At (fun w' => w' = w_9) ⟨b_l2, 0, none⟩ [.int .i64 t65, .slice t65_1.a t65_1.len t65_1.cap]) ∧
            Calls Tryz.prog 217 #[.agg #[.int .i64 t65, .slice t65_1.a t65_1.len t65_1.cap]] w_9 fun e_2 w_10 =>
            ∃ t66 : Int, (e_2 = .returned (.int .i64 t66)) ∧
            Br (decide (last7 ≥ t66))
             (K (.tuple #[.int .i64 0, .int .i64 2]) w_10)
             (∃ t71 : Int, ∃ t71_1 : Sl, (At (fun w' => w' = w_10) ⟨b_l2, 0, none⟩ [.int .i64 t71, .slice t71_1.a t71_1.len t71_1.cap]) ∧
              Calls Tryz.prog 217 #[.agg #[.int .i64 t71, .slice t71_1.a t71_1.len t71_1.cap]] w_10 fun e_3 w_11 =>
              ∃ t72 : Int, (e_3 = .returned (.int .i64 t72)) ∧
              K (.tuple #[.int .i64 (IntKind.i64.wrap (IntKind.i64.wrap (IntKind.i64.wrap (row6 - 1) * t72) + last7)), .int .i64 0]) w_11))))) w_4) w_2)) w
def sk234 : Sk := (.seq .leaf (.seq .leaf (.seq .leaf (.seq (.seq .leaf (.block (.loop [6, 7] [(.int .i64), (.int .i64)] [4, 5, 6, 7, 8, 9, 15, 16, 17, 18, 19, 20, 21, 22, 23, 24, 25, 26, 27, 28, 29, 30, 31, 32, 33, 34, 35, 36, 37, 38, 39, 40, 41, 42, 43, 44, 45, 46, 47, 48, 49, 50] (.seq .leaf (.seq .leaf (.block (.seq .leaf (.block (.cut [23] [.bool] [23, 24, 25, 26, 27, 28, 29, 30, 31, 32, 33, 34, 35, 36, 37] .leaf (.cond .leaf (.cut [38] [.bool] [38, 39, 40, 41, 42, 43, 44] .leaf .leaf))))))))))) .leaf))))
theorem ok234 : fnOk Tryz.prog Tryz.f234.ntmps Tryz.f234 sk234 = true := by kernel_rfl
theorem eq234 (l0_0 : Int) (l0_1 : Sl) (label1 : ByteArray) (K : Value → World → Prop) (w : World) : fnF Tryz.prog cl Tryz.f234 sk234 [.agg #[.int .i64 l0_0, .slice l0_1.a l0_1.len l0_1.cap], .string label1] K w = B234 l0_0 l0_1 label1 K w := by kernel_rfl
theorem call234 (l0_0 : Int) (l0_1 : Sl) (label1 : ByteArray) (K : Value → World → Prop) (w : World) (h : B234 l0_0 l0_1 label1 K w) : Gets Tryz.prog 234 #[.agg #[.int .i64 l0_0, .slice l0_1.a l0_1.len l0_1.cap], .string label1] w K :=
  calls_of (sk := sk234) cl_ok mixed Tryz.func234 ok234 (args := [.agg #[.int .i64 l0_0, .slice l0_1.a l0_1.len l0_1.cap], .string label1]) (Nat.le_of_ble_eq_true (by kernel_rfl)) (by rw [eq234]; exact h)
def B262 (c0 : Int) (K : Value → World → Prop) (w : World) : Prop :=
  ∃ (I : Int → World → Prop) (μ : Int → World → Nat), (I 0 w) ∧ ∀ (z : Env) (t4 : Int) (w_1 : World), I t4 w_1 →
  Br (decide (t4 < 10))
   (∃ t8 : UInt8, ((0 : Int) ≤ t4) ∧
    ((ByteArray.mk #[65, 66, 67, 68, 69, 70, 71, 72, 74, 75])[t4.toNat]? = some t8) ∧
    Br (IntKind.i32.wrap (↑t8.toNat : Int) == c0)
     (K (.int .i64 t4) w_1)
     ((I (IntKind.i64.wrap (t4 + 1)) w_1) ∧ μ (IntKind.i64.wrap (t4 + 1)) w_1 < μ t4 w_1))
   (K (.int .i64 ((-1))) w_1)
def sk262 : Sk := (.seq .leaf (.seq (.seq .leaf (.block (.loop [4] [(.int .i64)] [2, 3, 4, 5, 6, 7, 8, 9, 10, 11, 12, 13] .leaf))) .leaf))
theorem ok262 : fnOk Tryz.prog Tryz.f262.ntmps Tryz.f262 sk262 = true := by kernel_rfl
theorem eq262 (c0 : Int) (K : Value → World → Prop) (w : World) : fnF Tryz.prog cl Tryz.f262 sk262 [.int .i32 c0] K w = B262 c0 K w := by kernel_rfl
theorem call262 (c0 : Int) (K : Value → World → Prop) (w : World) (h : B262 c0 K w) : Gets Tryz.prog 262 #[.int .i32 c0] w K :=
  calls_of (sk := sk262) cl_ok mixed Tryz.func262 ok262 (args := [.int .i32 c0]) (Nat.le_of_ble_eq_true (by kernel_rfl)) (by rw [eq262]; exact h)
def B238 (l0_0 : Int) (l0_1 : Sl) (n1 : Int) (K : Value → World → Prop) (w : World) : Prop :=
  New (.cells #[.int .i64 l0_0, .slice l0_1.a l0_1.len l0_1.cap] 35 (0, 0)) (fun b_l2 w_1 =>
  ∃ t10 : Int, ∃ t10_1 : Sl, (At (fun w' => w' = w_1) ⟨b_l2, 0, none⟩ [.int .i64 t10, .slice t10_1.a t10_1.len t10_1.cap]) ∧
  Calls Tryz.prog 217 #[.agg #[.int .i64 t10, .slice t10_1.a t10_1.len t10_1.cap]] w_1 fun e w_2 =>
  ∃ t11 : Int, (e = .returned (.int .i64 t11)) ∧
  Nz t11 (∃ t14 : Sl, (At (fun w' => w' = w_2) ⟨b_l2, 0 + 1, none⟩ [.slice t14.a t14.len t14.cap]) ∧
  ∃ (I : Int → Int → World → Prop) (μ : Int → Int → World → Nat), (I (n1.tmod t11) 0 w_2) ∧ ∀ (z : Env) (at6 : Int) (t16 : Int) (w_3 : World), I at6 t16 w_3 →
  Br (decide (t16 < (↑t14.len : Int)))
   (Rng t16 t14.len (NilP t14.a fun a_t18 =>
    ∃ t19 : Int, (At (fun w' => w' = w_3) (Addr.add a_t18 t16.toNat) [.int .i64 t19]) ∧
    Br (decide (at6 < t19))
     (K (.tuple #[.int .i64 at6, .int .i64 (IntKind.i64.wrap (IntKind.i64.wrap (t19 - 1) - at6))]) w_3)
     ((I (IntKind.i64.wrap (at6 - t19)) (IntKind.i64.wrap (t16 + 1)) w_3) ∧ μ (IntKind.i64.wrap (at6 - t19)) (IntKind.i64.wrap (t16 + 1)) w_3 < μ at6 t16 w_3)))
   (K (.tuple #[.int .i64 0, .int .i64 0]) w_3))) w
def sk238 : Sk := (.seq .leaf (.seq .leaf (.seq (.seq .leaf (.block (.loop [6, 16] [(.int .i64), (.int .i64)] [4, 5, 6, 8, 16, 17, 18, 19, 20, 21, 22, 23, 24, 25, 26, 27, 28, 29, 30, 31] .leaf))) .leaf)))
theorem ok238 : fnOk Tryz.prog Tryz.f238.ntmps Tryz.f238 sk238 = true := by kernel_rfl
theorem eq238 (l0_0 : Int) (l0_1 : Sl) (n1 : Int) (K : Value → World → Prop) (w : World) : fnF Tryz.prog cl Tryz.f238 sk238 [.agg #[.int .i64 l0_0, .slice l0_1.a l0_1.len l0_1.cap], .int .i64 n1] K w = B238 l0_0 l0_1 n1 K w := by kernel_rfl
theorem call238 (l0_0 : Int) (l0_1 : Sl) (n1 : Int) (K : Value → World → Prop) (w : World) (h : B238 l0_0 l0_1 n1 K w) : Gets Tryz.prog 238 #[.agg #[.int .i64 l0_0, .slice l0_1.a l0_1.len l0_1.cap], .int .i64 n1] w K :=
  calls_of (sk := sk238) cl_ok mixed Tryz.func238 ok238 (args := [.agg #[.int .i64 l0_0, .slice l0_1.a l0_1.len l0_1.cap], .int .i64 n1]) (Nat.le_of_ble_eq_true (by kernel_rfl)) (by rw [eq238]; exact h)
def B188 (l0_0 : Int) (l0_1 : Sl) (taken1 : Sl) (many2 : Int) (K : Value → World → Prop) (w : World) : Prop :=
  New (.cells #[.int .i64 l0_0, .slice l0_1.a l0_1.len l0_1.cap] 35 (0, 0)) (fun b_l3 w_1 =>
  ∃ (J : World → Prop), (Br (decide (many2 < 1))
     (K (.tuple #[.slice none 0 0, .int .i64 1]) w_1)
     (∃ t20 : Int, ∃ t20_1 : Sl, (At (fun w' => w' = w_1) ⟨b_l3, 0, none⟩ [.int .i64 t20, .slice t20_1.a t20_1.len t20_1.cap]) ∧
      Calls Tryz.prog 162 #[.agg #[.int .i64 t20, .slice t20_1.a t20_1.len t20_1.cap]] w_1 fun e w_2 =>
      ∃ t21 : Int, (e = .returned (.int .i64 t21)) ∧
      Br (decide (many2 > t21))
       (K (.tuple #[.slice none 0 0, .int .i64 1]) w_2)
       (J  w_2))) ∧
  ∀ (z : Env)  (w_3 : World), J  w_3 →
  ∃ t24 : Int, ∃ t24_1 : Sl, (At (fun w' => w' = w_3) ⟨b_l3, 0, none⟩ [.int .i64 t24, .slice t24_1.a t24_1.len t24_1.cap]) ∧
  Calls Tryz.prog 162 #[.agg #[.int .i64 t24, .slice t24_1.a t24_1.len t24_1.cap]] w_3 fun e_1 w_4 =>
  ∃ t25 : Int, (e_1 = .returned (.int .i64 t25)) ∧
  ∃ w_5 : World, ∃ t26 : Sl, ((Instr.makeSlice 261 (.int .i64 t25) (.int .i64 t25)).run Tryz.prog w_4 = .ok (.slice t26.a t26.len t26.cap) w_5) ∧
  ∃ (I : Int → World → Prop) (μ : Int → World → Nat), (I 0 w_5) ∧ ∀ (z_1 : Env) (t29 : Int) (w_6 : World), I t29 w_6 →
  Br (decide (t29 < (↑taken1.len : Int)))
   (Rng t29 taken1.len (NilP taken1.a fun a_t31 =>
    ∃ t32 : Int, (At (fun w' => w' = w_6) (Addr.add a_t31 t29.toNat) [.int .i64 t32]) ∧
    ∃ t33 : Int, ∃ t33_1 : Sl, (At (fun w' => w' = w_6) ⟨b_l3, 0, none⟩ [.int .i64 t33, .slice t33_1.a t33_1.len t33_1.cap]) ∧
    Calls Tryz.prog 237 #[.agg #[.int .i64 t33, .slice t33_1.a t33_1.len t33_1.cap], .int .i64 t32] w_6 fun e_2 w_7 =>
    ∃ t35 : Bool, (e_2 = .returned (.bool t35)) ∧
    Br t35
     (Rng t32 t26.len (NilP t26.a fun a_t38 =>
      ∃ w_8 : World, ((Instr.storeAt 4 (.pointer ((some (Addr.add a_t38 t32.toNat)))) (.bool true)).run Tryz.prog w_7 = .ok () w_8) ∧
      (I (IntKind.i64.wrap (t29 + 1)) w_8) ∧ μ (IntKind.i64.wrap (t29 + 1)) w_8 < μ t29 w_6))
     ((I (IntKind.i64.wrap (t29 + 1)) w_7) ∧ μ (IntKind.i64.wrap (t29 + 1)) w_7 < μ t29 w_6)))
   (∃ t40 : Int, ∃ t40_1 : Sl, (At (fun w' => w' = w_6) ⟨b_l3, 0, none⟩ [.int .i64 t40, .slice t40_1.a t40_1.len t40_1.cap]) ∧
    Calls Tryz.prog 162 #[.agg #[.int .i64 t40, .slice t40_1.a t40_1.len t40_1.cap]] w_6 fun e_3 w_9 =>
    ∃ t41 : Int, (e_3 = .returned (.int .i64 t41)) ∧
    ∃ (I_1 : Sl → Sl → Int → World → Prop) (μ_1 : Sl → Sl → Int → World → Nat), (I_1 ⟨none, 0, 0⟩ ⟨none, 0, 0⟩ 0 w_9) ∧ ∀ (z_2 : Env) (free11 : Sl) (run12 : Sl) (t42 : Int) (w_10 : World), I_1 free11 run12 t42 w_10 →
    Br (decide (t42 < t41))
     (∃ (J_1 : Sl → World → Prop), (∃ t46 : Int, ∃ t46_1 : Sl, (At (fun w' => w' = w_10) ⟨b_l3, 0, none⟩ [.int .i64 t46, .slice t46_1.a t46_1.len t46_1.cap]) ∧
        Calls Tryz.prog 238 #[.agg #[.int .i64 t46, .slice t46_1.a t46_1.len t46_1.cap], .int .i64 t42] w_10 fun e_4 w_11 =>
        ∃ t48 : Int, ∃ t48_1 : Int, (e_4 = .returned (.tuple #[.int .i64 t48, .int .i64 t48_1])) ∧
        Br (t48 == 0)
         (J_1 ⟨none, 0, 0⟩ w_11)
         (Rng t42 t26.len (NilP t26.a fun a_t56 =>
          ∃ t57 : Bool, (At (fun w' => w' = w_11) (Addr.add a_t56 t42.toNat) [.bool t57]) ∧
          Br t57
           (J_1 ⟨none, 0, 0⟩ w_11)
           (J_1 run12 w_11)))) ∧
      ∀ (z_3 : Env) (run12_1 : Sl) (w_12 : World), J_1 run12_1 w_12 →
      Rng t42 t26.len (NilP t26.a fun a_t61 =>
      ∃ t62 : Bool, (At (fun w' => w' = w_12) (Addr.add a_t61 t42.toNat) [.bool t62]) ∧
      Br t62
       ((I_1 free11 run12_1 (IntKind.i64.wrap (t42 + 1)) w_12) ∧ μ_1 free11 run12_1 (IntKind.i64.wrap (t42 + 1)) w_12 < μ_1 free11 run12 t42 w_10)
       (New (.cells #[.int .i64 t42] 3 (0, 0)) (fun b_t65 w_13 =>
        ∃ w_14 : World, ∃ t66 : Sl, ((Builtin.append_ #[28, 28] 28 #[.slice free11.a free11.len free11.cap, .slice ((some ⟨b_t65, 0, none⟩)) 1 1]).run Tryz.prog w_13 = .ok (.slice t66.a t66.len t66.cap) w_14) ∧
        New (.cells #[.int .i64 t42] 3 (0, 0)) (fun b_t69 w_15 =>
        ∃ w_16 : World, ∃ t70 : Sl, ((Builtin.append_ #[28, 28] 28 #[.slice run12_1.a run12_1.len run12_1.cap, .slice ((some ⟨b_t69, 0, none⟩)) 1 1]).run Tryz.prog w_15 = .ok (.slice t70.a t70.len t70.cap) w_16) ∧
        Br ((↑t70.len : Int) == many2)
         (K (.tuple #[.slice t70.a t70.len t70.cap, .int .i64 0]) w_16)
         ((I_1 t66 t70 (IntKind.i64.wrap (t42 + 1)) w_16) ∧ μ_1 t66 t70 (IntKind.i64.wrap (t42 + 1)) w_16 < μ_1 free11 run12 t42 w_10)) w_14) w_12)))
     (Br (decide ((↑free11.len : Int) < many2))
       (K (.tuple #[.slice none 0 0, .int .i64 3]) w_10)
       (((0 : Int) ≤ many2) ∧
        ((many2 : Int) ≤ (↑free11.cap : Int)) ∧
        K (.tuple #[.slice free11.a many2.toNat free11.cap, .int .i64 0]) w_10)))) w
def sk188 : Sk := (.seq .leaf (.cut [] [] [6, 7, 16, 17, 18, 19, 20, 21, 22, 23] .leaf (.seq .leaf (.seq (.seq .leaf (.block (.loop [29] [(.int .i64)] [10, 29, 30, 31, 32, 33, 34, 35, 36, 37, 38, 39] .leaf))) (.seq .leaf (.seq (.seq .leaf (.block (.loop [11, 12, 42] [.sl, .sl, (.int .i64)] [6, 7, 11, 12, 13, 14, 15, 42, 43, 44, 45, 46, 47, 48, 49, 50, 51, 52, 53, 54, 55, 56, 57, 58, 59, 60, 61, 62, 63, 64, 65, 66, 67, 68, 69, 70, 71, 72, 73, 74, 75, 76] (.seq .leaf (.seq .leaf (.seq (.block (.seq .leaf (.cut [12] [.sl] [12, 14, 15, 45, 46, 47, 48, 49, 50, 51, 52, 53, 54, 55, 56, 57, 58] .leaf .leaf))) .leaf)))))) .leaf))))))
theorem ok188 : fnOk Tryz.prog Tryz.f188.ntmps Tryz.f188 sk188 = true := by kernel_rfl
theorem eq188 (l0_0 : Int) (l0_1 : Sl) (taken1 : Sl) (many2 : Int) (K : Value → World → Prop) (w : World) : fnF Tryz.prog cl Tryz.f188 sk188 [.agg #[.int .i64 l0_0, .slice l0_1.a l0_1.len l0_1.cap], .slice taken1.a taken1.len taken1.cap, .int .i64 many2] K w = B188 l0_0 l0_1 taken1 many2 K w := by kernel_rfl
theorem call188 (l0_0 : Int) (l0_1 : Sl) (taken1 : Sl) (many2 : Int) (K : Value → World → Prop) (w : World) (h : B188 l0_0 l0_1 taken1 many2 K w) : Gets Tryz.prog 188 #[.agg #[.int .i64 l0_0, .slice l0_1.a l0_1.len l0_1.cap], .slice taken1.a taken1.len taken1.cap, .int .i64 many2] w K :=
  calls_of (sk := sk188) cl_ok mixed Tryz.func188 ok188 (args := [.agg #[.int .i64 l0_0, .slice l0_1.a l0_1.len l0_1.cap], .slice taken1.a taken1.len taken1.cap, .int .i64 many2]) (Nat.le_of_ble_eq_true (by kernel_rfl)) (by rw [eq188]; exact h)
def B226 (n0 : Int) (K : Value → World → Prop) (w : World) : Prop :=
  Br (decide (n0 ≥ 0))
   (K (.bool (decide (n0 ≤ 10000))) w)
   (K (.bool false) w)
def sk226 : Sk := .leaf
theorem ok226 : fnOk Tryz.prog Tryz.f226.ntmps Tryz.f226 sk226 = true := by kernel_rfl
theorem eq226 (n0 : Int) (K : Value → World → Prop) (w : World) : fnF Tryz.prog cl Tryz.f226 sk226 [.int .i64 n0] K w = B226 n0 K w := by kernel_rfl
theorem call226 (n0 : Int) (K : Value → World → Prop) (w : World) (h : B226 n0 K w) : Gets Tryz.prog 226 #[.int .i64 n0] w K :=
  calls_of (sk := sk226) cl_ok mixed Tryz.func226 ok226 (args := [.int .i64 n0]) (Nat.le_of_ble_eq_true (by kernel_rfl)) (by rw [eq226]; exact h)
def B197 (limits0 : Sl) (sold1 : Sl) (ask2 : Value) (K : Value → World → Prop) (w : World) : Prop :=
  ∃ (J : World → Prop), (Br (decide ((↑limits0.len : Int) < 1))
     (K (.bool false) w)
     (Br (decide ((↑limits0.len : Int) > 8))
       (K (.bool false) w)
       (Br ((↑sold1.len : Int) != (↑limits0.len : Int))
         (K (.bool false) w)
         (J  w)))) ∧
  ∀ (z : Env)  (w_1 : World), J  w_1 →
  ∃ (I : Int → Bool → Int → World → Prop) (μ : Int → Bool → Int → World → Nat), (I 0 true (IntKind.i64.wrap ((↑limits0.len : Int) - 1)) w_1) ∧ ∀ (z_1 : Env) (sum7 : Int) (fine8 : Bool) (k9 : Int) (w_2 : World), I sum7 fine8 k9 w_2 →
  Br (decide (k9 ≥ 0))
   (∃ (J_1 : World → Prop), (Drw w_2 fun S w_3 =>
      Rng k9 limits0.len (NilP limits0.a fun a_t34 =>
      ∃ t35 : Int, (At S (Addr.add a_t34 k9.toNat) [.int .i64 t35]) ∧
      Calls Tryz.prog 226 #[.int .i64 t35] w_3 fun e w_4 =>
      ∃ t36 : Bool, (e = .returned (.bool t36)) ∧
      (S w_4) ∧
      Br (!t36)
       (K (.bool false) w_4)
       (Rng k9 sold1.len (NilP sold1.a fun a_t41 =>
        ∃ t42 : Int, (At S (Addr.add a_t41 k9.toNat) [.int .i64 t42]) ∧
        Calls Tryz.prog 226 #[.int .i64 t42] w_4 fun e_1 w_5 =>
        ∃ t43 : Bool, (e_1 = .returned (.bool t43)) ∧
        (S w_5) ∧
        Br (!t43)
         (K (.bool false) w_5)
         (Br (decide (k9 > 0))
           (Rng k9 limits0.len (NilP limits0.a fun a_t52 =>
            ∃ t53 : Int, (At S (Addr.add a_t52 k9.toNat) [.int .i64 t53]) ∧
            Rng (IntKind.i64.wrap (k9 - 1)) limits0.len (NilP limits0.a fun a_t57 =>
            ∃ t58 : Int, (At S (Addr.add a_t57 ((IntKind.i64.wrap (k9 - 1)).toNat)) [.int .i64 t58]) ∧
            Br (decide (t53 > t58))
             (K (.bool false) w_5)
             (J_1  w_5))))
           (J_1  w_5)))))) ∧
    ∀ (z_2 : Env)  (w_6 : World), J_1  w_6 →
    Rng k9 sold1.len (NilP sold1.a fun a_t65 =>
    ∃ t66 : Int, (At (fun w' => w' = w_6) (Addr.add a_t65 k9.toNat) [.int .i64 t66]) ∧
    Br fine8
     (Rng k9 limits0.len (NilP limits0.a fun a_t73 =>
      ∃ t74 : Int, (At (fun w' => w' = w_6) (Addr.add a_t73 k9.toNat) [.int .i64 t74]) ∧
      Rng k9 limits0.len (NilP limits0.a fun a_t81 =>
      ∃ t82 : Int, (At (fun w' => w' = w_6) (Addr.add a_t81 k9.toNat) [.int .i64 t82]) ∧
      CalW Tryz.prog cl ask2 [.int .i64 k9, .int .i64 (IntKind.i64.wrap (t82 - IntKind.i64.wrap (sum7 + t66)))] w_6 fun e_2 w_7 =>
      (e_2 = .returned (.tuple #[])) ∧
      (I (IntKind.i64.wrap (sum7 + t66)) (decide (IntKind.i64.wrap (sum7 + t66) ≤ t74)) (IntKind.i64.wrap (k9 - 1)) w_7) ∧ μ (IntKind.i64.wrap (sum7 + t66)) (decide (IntKind.i64.wrap (sum7 + t66) ≤ t74)) (IntKind.i64.wrap (k9 - 1)) w_7 < μ sum7 fine8 k9 w_2)))
     (Rng k9 limits0.len (NilP limits0.a fun a_t81_1 =>
      ∃ t82_1 : Int, (At (fun w' => w' = w_6) (Addr.add a_t81_1 k9.toNat) [.int .i64 t82_1]) ∧
      CalW Tryz.prog cl ask2 [.int .i64 k9, .int .i64 (IntKind.i64.wrap (t82_1 - IntKind.i64.wrap (sum7 + t66)))] w_6 fun e_3 w_8 =>
      (e_3 = .returned (.tuple #[])) ∧
      (I (IntKind.i64.wrap (sum7 + t66)) false (IntKind.i64.wrap (k9 - 1)) w_8) ∧ μ (IntKind.i64.wrap (sum7 + t66)) false (IntKind.i64.wrap (k9 - 1)) w_8 < μ sum7 fine8 k9 w_2))))
   (K (.bool fine8) w_2)
def sk197 : Sk := (.seq .leaf (.cut [] [] [6, 10, 11, 12, 13, 14, 15, 16, 17, 18, 19, 20, 21, 22, 23, 24] .leaf (.seq .leaf (.seq (.seq .leaf (.block (.loop [7, 8, 9] [(.int .i64), .bool, (.int .i64)] [6, 7, 8, 9, 28, 29, 30, 31, 32, 33, 34, 35, 36, 37, 38, 39, 40, 41, 42, 43, 44, 45, 46, 47, 48, 49, 50, 51, 52, 53, 54, 55, 56, 57, 58, 59, 60, 61, 62, 63, 64, 65, 66, 67, 68, 69, 70, 71, 72, 73, 74, 75, 76, 77, 78, 79, 80, 81, 82, 83, 84, 85] (.seq .leaf (.seq (.block (.cut [] [] [6, 32, 33, 34, 35, 36, 37, 38, 39, 40, 41, 42, 43, 44, 45, 46, 47, 48, 49, 50, 51, 52, 53, 54, 55, 56, 57, 58, 59, 60, 61] .leaf .leaf)) .leaf))))) .leaf))))
theorem ok197 : fnOk Tryz.prog Tryz.f197.ntmps Tryz.f197 sk197 = true := by kernel_rfl
theorem eq197 (limits0 : Sl) (sold1 : Sl) (ask2 : Value) (K : Value → World → Prop) (w : World) : fnF Tryz.prog cl Tryz.f197 sk197 [.slice limits0.a limits0.len limits0.cap, .slice sold1.a sold1.len sold1.cap, ask2] K w = B197 limits0 sold1 ask2 K w := by kernel_rfl
theorem call197 (limits0 : Sl) (sold1 : Sl) (ask2 : Value) (K : Value → World → Prop) (w : World) (h : B197 limits0 sold1 ask2 K w) : Gets Tryz.prog 197 #[.slice limits0.a limits0.len limits0.cap, .slice sold1.a sold1.len sold1.cap, ask2] w K :=
  calls_of (sk := sk197) cl_ok mixed Tryz.func197 ok197 (args := [.slice limits0.a limits0.len limits0.cap, .slice sold1.a sold1.len sold1.cap, ask2]) (Nat.le_of_ble_eq_true (by kernel_rfl)) (by rw [eq197]; exact h)
def B131 (limits0 : Sl) (sold1 : Sl) (class2 : Int) (K : Value → World → Prop) (w : World) : Prop :=
  New (.cells #[.int .i64 class2] 3 (0, 0)) (fun b_class5 w_1 =>
  New (.cells #[.int .i64 0] 3 (0, 0)) (fun b_least8 w_2 =>
  ∃ w_3 : World, ((Instr.storeAt 3 (.pointer ((some ⟨b_least8, 0, none⟩))) (.int .i64 10000)).run Tryz.prog w_2 = .ok () w_3) ∧
  Calls Tryz.prog 197 #[.slice limits0.a limits0.len limits0.cap, .slice sold1.a sold1.len sold1.cap, .func (.func 198) #[] #[.pointer ((some ⟨b_class5, 0, none⟩)), .pointer ((some ⟨b_least8, 0, none⟩))]] w_3 fun e w_4 =>
  ∃ t13 : Bool, (e = .returned (.bool t13)) ∧
  Br (!t13)
   (K (.tuple #[.int .i64 0, .int .i64 1]) w_4)
   (∃ t17 : Int, (At (fun w' => w' = w_4) ⟨b_class5, 0, none⟩ [.int .i64 t17]) ∧
    Br (decide (t17 < 0))
     (K (.tuple #[.int .i64 0, .int .i64 1]) w_4)
     (∃ t21 : Int, (At (fun w' => w' = w_4) ⟨b_class5, 0, none⟩ [.int .i64 t21]) ∧
      Br (decide (t21 ≥ (↑limits0.len : Int)))
       (K (.tuple #[.int .i64 0, .int .i64 1]) w_4)
       (∃ t26 : Int, (At (fun w' => w' = w_4) ⟨b_least8, 0, none⟩ [.int .i64 t26]) ∧
        K (.tuple #[.int .i64 t26, .int .i64 0]) w_4)))) w_1) w
def sk131 : Sk := .leaf
theorem ok131 : fnOk Tryz.prog Tryz.f131.ntmps Tryz.f131 sk131 = true := by kernel_rfl
theorem eq131 (limits0 : Sl) (sold1 : Sl) (class2 : Int) (K : Value → World → Prop) (w : World) : fnF Tryz.prog cl Tryz.f131 sk131 [.slice limits0.a limits0.len limits0.cap, .slice sold1.a sold1.len sold1.cap, .int .i64 class2] K w = B131 limits0 sold1 class2 K w := by kernel_rfl
theorem call131 (limits0 : Sl) (sold1 : Sl) (class2 : Int) (K : Value → World → Prop) (w : World) (h : B131 limits0 sold1 class2 K w) : Gets Tryz.prog 131 #[.slice limits0.a limits0.len limits0.cap, .slice sold1.a sold1.len sold1.cap, .int .i64 class2] w K :=
  calls_of (sk := sk131) cl_ok mixed Tryz.func131 ok131 (args := [.slice limits0.a limits0.len limits0.cap, .slice sold1.a sold1.len sold1.cap, .int .i64 class2]) (Nat.le_of_ble_eq_true (by kernel_rfl)) (by rw [eq131]; exact h)
def B198 (k0 : Int) (left1 : Int) (c2 : Option Addr) (c3 : Option Addr) (K : Value → World → Prop) (w : World) : Prop :=
  NilP c2 fun a_t7 =>
  ∃ t7 : Int, (At (fun w' => w' = w) a_t7 [.int .i64 t7]) ∧
  Br (decide (k0 ≤ t7))
   (NilP c3 fun a_t9 =>
    ∃ t9 : Int, (At (fun w' => w' = w) a_t9 [.int .i64 t9]) ∧
    ∃ w_1 : World, ((Instr.storeAt 3 (.pointer c3) (.int .i64 (if left1 < t9 then left1 else t9))).run Tryz.prog w = .ok () w_1) ∧
    K (.tuple #[]) w_1)
   (K (.tuple #[]) w)
def sk198 : Sk := .leaf
theorem ok198 : fnOk Tryz.prog Tryz.f198.ntmps Tryz.f198 sk198 = true := by kernel_rfl
theorem eq198 (k0 : Int) (left1 : Int) (c2 : Option Addr) (c3 : Option Addr) (K : Value → World → Prop) (w : World) : fnF Tryz.prog cl Tryz.f198 sk198 [.int .i64 k0, .int .i64 left1, .pointer c2, .pointer c3] K w = B198 k0 left1 c2 c3 K w := by kernel_rfl
theorem call198 (k0 : Int) (left1 : Int) (c2 : Option Addr) (c3 : Option Addr) (K : Value → World → Prop) (w : World) (h : B198 k0 left1 c2 c3 K w) : Gets Tryz.prog 198 #[.int .i64 k0, .int .i64 left1, .pointer c2, .pointer c3] w K :=
  calls_of (sk := sk198) cl_ok mixed Tryz.func198 ok198 (args := [.int .i64 k0, .int .i64 left1, .pointer c2, .pointer c3]) (Nat.le_of_ble_eq_true (by kernel_rfl)) (by rw [eq198]; exact h)
def B178 (limits0 : Sl) (sold1 : Sl) (class2 : Int) (many3 : Int) (K : Value → World → Prop) (w : World) : Prop :=
  Calls Tryz.prog 131 #[.slice limits0.a limits0.len limits0.cap, .slice sold1.a sold1.len sold1.cap, .int .i64 class2] w fun e w_1 =>
  ∃ t16 : Int, ∃ t16_1 : Int, (e = .returned (.tuple #[.int .i64 t16, .int .i64 t16_1])) ∧
  Br (t16_1 != 0)
   (K (.tuple #[.slice none 0 0, .int .i64 1]) w_1)
   (Br (decide (many3 < 1))
     (K (.tuple #[.slice none 0 0, .int .i64 1]) w_1)
     (Br (decide (many3 > 10000))
       (K (.tuple #[.slice none 0 0, .int .i64 1]) w_1)
       (Br (decide (many3 > t16))
         (K (.tuple #[.slice none 0 0, .int .i64 3]) w_1)
         (Calls Tryz.prog 228 #[.slice sold1.a sold1.len sold1.cap, .int .i64 class2, .int .i64 many3] w_1 fun e_1 w_2 =>
          ∃ t37 : Sl, (e_1 = .returned (.slice t37.a t37.len t37.cap)) ∧
          K (.tuple #[.slice t37.a t37.len t37.cap, .int .i64 0]) w_2))))
def sk178 : Sk := .leaf
theorem ok178 : fnOk Tryz.prog Tryz.f178.ntmps Tryz.f178 sk178 = true := by kernel_rfl
theorem eq178 (limits0 : Sl) (sold1 : Sl) (class2 : Int) (many3 : Int) (K : Value → World → Prop) (w : World) : fnF Tryz.prog cl Tryz.f178 sk178 [.slice limits0.a limits0.len limits0.cap, .slice sold1.a sold1.len sold1.cap, .int .i64 class2, .int .i64 many3] K w = B178 limits0 sold1 class2 many3 K w := by kernel_rfl
theorem call178 (limits0 : Sl) (sold1 : Sl) (class2 : Int) (many3 : Int) (K : Value → World → Prop) (w : World) (h : B178 limits0 sold1 class2 many3 K w) : Gets Tryz.prog 178 #[.slice limits0.a limits0.len limits0.cap, .slice sold1.a sold1.len sold1.cap, .int .i64 class2, .int .i64 many3] w K :=
  calls_of (sk := sk178) cl_ok mixed Tryz.func178 ok178 (args := [.slice limits0.a limits0.len limits0.cap, .slice sold1.a sold1.len sold1.cap, .int .i64 class2, .int .i64 many3]) (Nat.le_of_ble_eq_true (by kernel_rfl)) (by rw [eq178]; exact h)
def B184 (limits0 : Sl) (sold1 : Sl) (class2 : Int) (many3 : Int) (K : Value → World → Prop) (w : World) : Prop :=
  Calls Tryz.prog 131 #[.slice limits0.a limits0.len limits0.cap, .slice sold1.a sold1.len sold1.cap, .int .i64 class2] w fun e w_1 =>
  ∃ t16 : Int, ∃ t16_1 : Int, (e = .returned (.tuple #[.int .i64 t16, .int .i64 t16_1])) ∧
  Br (t16_1 != 0)
   (K (.tuple #[.slice none 0 0, .int .i64 1]) w_1)
   (Br (decide (many3 < 1))
     (K (.tuple #[.slice none 0 0, .int .i64 1]) w_1)
     (Rng class2 sold1.len (NilP sold1.a fun a_t29 =>
      ∃ t30 : Int, (At (fun w' => w' = w_1) (Addr.add a_t29 class2.toNat) [.int .i64 t30]) ∧
      Br (decide (many3 > t30))
       (K (.tuple #[.slice none 0 0, .int .i64 1]) w_1)
       (Calls Tryz.prog 228 #[.slice sold1.a sold1.len sold1.cap, .int .i64 class2, .int .i64 (IntKind.i64.wrap (0 - many3))] w_1 fun e_1 w_2 =>
        ∃ t37 : Sl, (e_1 = .returned (.slice t37.a t37.len t37.cap)) ∧
        K (.tuple #[.slice t37.a t37.len t37.cap, .int .i64 0]) w_2))))
def sk184 : Sk := .leaf
theorem ok184 : fnOk Tryz.prog Tryz.f184.ntmps Tryz.f184 sk184 = true := by kernel_rfl
theorem eq184 (limits0 : Sl) (sold1 : Sl) (class2 : Int) (many3 : Int) (K : Value → World → Prop) (w : World) : fnF Tryz.prog cl Tryz.f184 sk184 [.slice limits0.a limits0.len limits0.cap, .slice sold1.a sold1.len sold1.cap, .int .i64 class2, .int .i64 many3] K w = B184 limits0 sold1 class2 many3 K w := by kernel_rfl
theorem call184 (limits0 : Sl) (sold1 : Sl) (class2 : Int) (many3 : Int) (K : Value → World → Prop) (w : World) (h : B184 limits0 sold1 class2 many3 K w) : Gets Tryz.prog 184 #[.slice limits0.a limits0.len limits0.cap, .slice sold1.a sold1.len sold1.cap, .int .i64 class2, .int .i64 many3] w K :=
  calls_of (sk := sk184) cl_ok mixed Tryz.func184 ok184 (args := [.slice limits0.a limits0.len limits0.cap, .slice sold1.a sold1.len sold1.cap, .int .i64 class2, .int .i64 many3]) (Nat.le_of_ble_eq_true (by kernel_rfl)) (by rw [eq184]; exact h)
def B228 (sold0 : Sl) (class1 : Int) (many2 : Int) (K : Value → World → Prop) (w : World) : Prop :=
  Calls Tryz.prog 172 #[.slice sold0.a sold0.len sold0.cap] w fun e w_1 =>
  ∃ t9 : Sl, (e = .returned (.slice t9.a t9.len t9.cap)) ∧
  Rng class1 t9.len (NilP t9.a fun a_t12 =>
  ∃ t13 : Int, (At (fun w' => w' = w_1) (Addr.add a_t12 class1.toNat) [.int .i64 t13]) ∧
  Rng class1 t9.len (NilP t9.a fun a_t16 =>
  ∃ w_2 : World, ((Instr.storeAt 3 (.pointer ((some (Addr.add a_t16 class1.toNat)))) (.int .i64 (IntKind.i64.wrap (t13 + many2)))).run Tryz.prog w_1 = .ok () w_2) ∧
  K (.slice t9.a t9.len t9.cap) w_2))
def sk228 : Sk := .leaf
theorem ok228 : fnOk Tryz.prog Tryz.f228.ntmps Tryz.f228 sk228 = true := by kernel_rfl
theorem eq228 (sold0 : Sl) (class1 : Int) (many2 : Int) (K : Value → World → Prop) (w : World) : fnF Tryz.prog cl Tryz.f228 sk228 [.slice sold0.a sold0.len sold0.cap, .int .i64 class1, .int .i64 many2] K w = B228 sold0 class1 many2 K w := by kernel_rfl
theorem call228 (sold0 : Sl) (class1 : Int) (many2 : Int) (K : Value → World → Prop) (w : World) (h : B228 sold0 class1 many2 K w) : Gets Tryz.prog 228 #[.slice sold0.a sold0.len sold0.cap, .int .i64 class1, .int .i64 many2] w K :=
  calls_of (sk := sk228) cl_ok mixed Tryz.func228 ok228 (args := [.slice sold0.a sold0.len sold0.cap, .int .i64 class1, .int .i64 many2]) (Nat.le_of_ble_eq_true (by kernel_rfl)) (by rw [eq228]; exact h)
def B177 (seats0 : Int) (parts1 : Sl) (K : Value → World → Prop) (w : World) : Prop :=
  ∃ (J : World → Prop), (Calls Tryz.prog 226 #[.int .i64 seats0] w fun e w_1 =>
    ∃ t12 : Bool, (e = .returned (.bool t12)) ∧
    Br (!t12)
     (K (.tuple #[.slice none 0 0, .int .i64 1]) w_1)
     (Br (decide ((↑parts1.len : Int) < 1))
       (K (.tuple #[.slice none 0 0, .int .i64 1]) w_1)
       (Br (decide ((↑parts1.len : Int) > 8))
         (K (.tuple #[.slice none 0 0, .int .i64 1]) w_1)
         (J  w_1)))) ∧
  ∀ (z : Env)  (w_2 : World), J  w_2 →
  New (.cells #[.int .i64 seats0] 3 (0, 0)) (fun b_t25 w_3 =>
  ((0 : Int) ≤ 1) ∧
  ((1 : Int) ≤ (↑parts1.len : Int)) ∧
  ∃ (I : Sl → Int → World → Prop) (μ : Sl → Int → World → Nat), (I ⟨(some ⟨b_t25, 0, none⟩), 1, 1⟩ 0 w_3) ∧ ∀ (z_1 : Env) (out6 : Sl) (t29 : Int) (w_4 : World), I out6 t29 w_4 →
  Br (decide (t29 < (↑(parts1.len - Int.toNat 1) : Int)))
   (Rng t29 (parts1.len - Int.toNat 1) (NilP (cutA parts1.a (Int.toNat 1) parts1.cap 1) fun a_t32 =>
    ∃ t33 : Nat, (At (fun w' => w' = w_4) (Addr.add a_t32 t29.toNat) [.float .f64 t33]) ∧
    Calls Tryz.prog 227 #[.float .f64 t33, .int .i64 seats0] w_4 fun e_1 w_5 =>
    ∃ t37 : Int, ∃ t37_1 : Int, (e_1 = .returned (.tuple #[.int .i64 t37, .int .i64 t37_1])) ∧
    Rng t29 out6.len (NilP out6.a fun a_t44 =>
    ∃ t45 : Int, (At (fun w' => w' = w_5) (Addr.add a_t44 t29.toNat) [.int .i64 t45]) ∧
    New (.cells #[.int .i64 (if t45 < t37 then t45 else t37)] 3 (0, 0)) (fun b_t47 w_6 =>
    ∃ w_7 : World, ∃ t48 : Sl, ((Builtin.append_ #[28, 28] 28 #[.slice out6.a out6.len out6.cap, .slice ((some ⟨b_t47, 0, none⟩)) 1 1]).run Tryz.prog w_6 = .ok (.slice t48.a t48.len t48.cap) w_7) ∧
    (I t48 (IntKind.i64.wrap (t29 + 1)) w_7) ∧ μ t48 (IntKind.i64.wrap (t29 + 1)) w_7 < μ out6 t29 w_4) w_5)))
   (K (.tuple #[.slice out6.a out6.len out6.cap, .int .i64 0]) w_4)) w_2
def sk177 : Sk := (.seq .leaf (.cut [] [] [4, 5, 11, 12, 13, 14, 15, 16, 17, 18, 19, 20, 21, 22, 23] .leaf (.seq .leaf (.seq (.seq .leaf (.block (.loop [6, 29] [.sl, (.int .i64)] [6, 7, 8, 9, 10, 29, 30, 31, 32, 33, 34, 35, 36, 37, 38, 39, 40, 41, 42, 43, 44, 45, 46, 47, 48, 49] .leaf))) .leaf))))
theorem ok177 : fnOk Tryz.prog Tryz.f177.ntmps Tryz.f177 sk177 = true := by kernel_rfl
theorem eq177 (seats0 : Int) (parts1 : Sl) (K : Value → World → Prop) (w : World) : fnF Tryz.prog cl Tryz.f177 sk177 [.int .i64 seats0, .slice parts1.a parts1.len parts1.cap] K w = B177 seats0 parts1 K w := by kernel_rfl
theorem call177 (seats0 : Int) (parts1 : Sl) (K : Value → World → Prop) (w : World) (h : B177 seats0 parts1 K w) : Gets Tryz.prog 177 #[.int .i64 seats0, .slice parts1.a parts1.len parts1.cap] w K :=
  calls_of (sk := sk177) cl_ok mixed Tryz.func177 ok177 (args := [.int .i64 seats0, .slice parts1.a parts1.len parts1.cap]) (Nat.le_of_ble_eq_true (by kernel_rfl)) (by rw [eq177]; exact h)
def B227 (part0 : Nat) (seats1 : Int) (K : Value → World → Prop) (w : World) : Prop :=
  ∃ (J : Bool → World → Prop), (Br (decide (seats1 < 0))
     (J true w)
     (J (decide (seats1 > 10000)) w)) ∧
  ∀ (z : Env) (t6 : Bool) (w_1 : World), J t6 w_1 →
  Br t6
   (K (.tuple #[.int .i64 0, .int .i64 1]) w_1)
   (∃ t15 : Bool, (∀ w', (fun w' => w' = w_1) w' → ((do eqGuard BinOp.gtr 33 (Operand.tmp 14) (Operand.const (Value.float FloatKind.f64 0)) (.float .f64 part0) (.float .f64 0); binOp BinOp.gtr 33 (.float .f64 part0) (.float .f64 0) : Sem Value)).run Tryz.prog w' = .ok (.bool t15) w') ∧
    Br (!t15)
     (K (.tuple #[.int .i64 0, .int .i64 0]) w_1)
     (∃ t19 : Bool, (∀ w', (fun w' => w' = w_1) w' → ((do eqGuard BinOp.geq 33 (Operand.tmp 18) (Operand.const (Value.float FloatKind.f64 4607182418800017408)) (.float .f64 part0) (.float .f64 4607182418800017408); binOp BinOp.geq 33 (.float .f64 part0) (.float .f64 4607182418800017408) : Sem Value)).run Tryz.prog w' = .ok (.bool t19) w') ∧
      Br t19
       (K (.tuple #[.int .i64 seats1, .int .i64 0]) w_1)
       (∃ w_2 : World, ∃ t23 : Nat, ((convert 3 33 (.int .i64 seats1)).run Tryz.prog w_1 = .ok (.float .f64 t23) w_2) ∧
        ∃ t24 : Nat, (∀ w', (fun w' => w' = w_2) w' → ((do eqGuard BinOp.mul 33 (Operand.tmp 21) (Operand.tmp 23) (.float .f64 part0) (.float .f64 t23); binOp BinOp.mul 33 (.float .f64 part0) (.float .f64 t23) : Sem Value)).run Tryz.prog w' = .ok (.float .f64 t24) w') ∧
        Calls Tryz.prog 260 #[.float .f64 t24] w_2 fun e w_3 =>
        ∃ t25 : Nat, (e = .returned (.float .f64 t25)) ∧
        ∃ t26 : Int, (∀ w', (fun w' => w' = w_3) w' → ((convert 33 3 (.float .f64 t25))).run Tryz.prog w' = .ok (.int .i64 t26) w') ∧
        K (.tuple #[.int .i64 t26, .int .i64 0]) w_3)))
def sk227 : Sk := (.seq .leaf (.seq (.block (.cut [6] [.bool] [6, 7, 8, 9, 10, 11, 12] .leaf .leaf)) .leaf))
theorem ok227 : fnOk Tryz.prog Tryz.f227.ntmps Tryz.f227 sk227 = true := by kernel_rfl
theorem eq227 (part0 : Nat) (seats1 : Int) (K : Value → World → Prop) (w : World) : fnF Tryz.prog cl Tryz.f227 sk227 [.float .f64 part0, .int .i64 seats1] K w = B227 part0 seats1 K w := by kernel_rfl
theorem call227 (part0 : Nat) (seats1 : Int) (K : Value → World → Prop) (w : World) (h : B227 part0 seats1 K w) : Gets Tryz.prog 227 #[.float .f64 part0, .int .i64 seats1] w K :=
  calls_of (sk := sk227) cl_ok mixed Tryz.func227 ok227 (args := [.float .f64 part0, .int .i64 seats1]) (Nat.le_of_ble_eq_true (by kernel_rfl)) (by rw [eq227]; exact h)
def B260 (x0 : Nat) (K : Value → World → Prop) (w : World) : Prop :=
  Ext Tryz.prog 274 #[.float .f64 x0] w fun e w_1 =>
  ∃ t4 : Nat, (e = .returned (.float .f64 t4)) ∧
  K (.float .f64 t4) w_1
def sk260 : Sk := .leaf
theorem ok260 : fnOk Tryz.prog Tryz.f260.ntmps Tryz.f260 sk260 = true := by kernel_rfl
theorem eq260 (x0 : Nat) (K : Value → World → Prop) (w : World) : fnF Tryz.prog cl Tryz.f260 sk260 [.float .f64 x0] K w = B260 x0 K w := by kernel_rfl
theorem call260 (x0 : Nat) (K : Value → World → Prop) (w : World) (h : B260 x0 K w) : Gets Tryz.prog 260 #[.float .f64 x0] w K :=
  calls_of (sk := sk260) cl_ok mixed Tryz.func260 ok260 (args := [.float .f64 x0]) (Nat.le_of_ble_eq_true (by kernel_rfl)) (by rw [eq260]; exact h)
def B266 (i0 : Int) (K : Value → World → Prop) (w : World) : Prop :=
  Calls Tryz.prog 278 #[.int .i64 i0] w fun e w_1 =>
  ∃ t4 : ByteArray, (e = .returned (.string t4)) ∧
  K (.string t4) w_1
def sk266 : Sk := .leaf
theorem ok266 : fnOk Tryz.prog Tryz.f266.ntmps Tryz.f266 sk266 = true := by kernel_rfl
theorem eq266 (i0 : Int) (K : Value → World → Prop) (w : World) : fnF Tryz.prog cl Tryz.f266 sk266 [.int .i64 i0] K w = B266 i0 K w := by kernel_rfl
theorem call266 (i0 : Int) (K : Value → World → Prop) (w : World) (h : B266 i0 K w) : Gets Tryz.prog 266 #[.int .i64 i0] w K :=
  calls_of (sk := sk266) cl_ok mixed Tryz.func266 ok266 (args := [.int .i64 i0]) (Nat.le_of_ble_eq_true (by kernel_rfl)) (by rw [eq266]; exact h)
end Go.Proofs.YtfgbbckfikiomaaGreatDoor
/- The formulas of functions of this seat's translation, printed by a program of mine off the translation; each is proved equal to 'fnF' of the function's body, so it is enough for the call. No condition. -/
namespace Go.Proofs.YtfgbbckfikiomaaGreatDoor
open Go Go.VC
set_option linter.unusedVariables false
set_option maxRecDepth 10000
def B109 (number0 : Int) (l1_0 : Int) (l1_1 : Sl) (parts2 : Sl) (K : Value → World → Prop) (w : World) : Prop :=
  New (.cells #[.int .i64 l1_0, .slice l1_1.a l1_1.len l1_1.cap] 35 (0, 0)) (fun b_l4 w_1 =>
  ∃ t11 : Int, ∃ t11_1 : Sl, (At (fun w' => w' = w_1) ⟨b_l4, 0, none⟩ [.int .i64 t11, .slice t11_1.a t11_1.len t11_1.cap]) ∧
  Calls Tryz.prog 162 #[.agg #[.int .i64 t11, .slice t11_1.a t11_1.len t11_1.cap]] w_1 fun e w_2 =>
  ∃ t12 : Int, (e = .returned (.int .i64 t12)) ∧
  Calls Tryz.prog 177 #[.int .i64 t12, .slice parts2.a parts2.len parts2.cap] w_2 fun e_1 w_3 =>
  ∃ t14 : Sl, ∃ t14_1 : Int, (e_1 = .returned (.tuple #[.slice t14.a t14.len t14.cap, .int .i64 t14_1])) ∧
  Br (decide (number0 < 1))
   (K (.tuple #[.pointer none, .int .i64 1]) w_3)
   (Br (decide (number0 > 9999))
     (K (.tuple #[.pointer none, .int .i64 1]) w_3)
     (∃ t24 : Int, ∃ t24_1 : Sl, (At (fun w' => w' = w_3) ⟨b_l4, 0, none⟩ [.int .i64 t24, .slice t24_1.a t24_1.len t24_1.cap]) ∧
      Calls Tryz.prog 160 #[.agg #[.int .i64 t24, .slice t24_1.a t24_1.len t24_1.cap]] w_3 fun e_2 w_4 =>
      ∃ t25 : Bool, (e_2 = .returned (.bool t25)) ∧
      Br (!t25)
       (K (.tuple #[.pointer none, .int .i64 1]) w_4)
       (Br (t14_1 != 0)
         (K (.tuple #[.pointer none, .int .i64 1]) w_4)
         (∃ t33 : Sl, (At (fun w' => w' = w_4) ⟨b_l4, 0 + 1, none⟩ [.slice t33.a t33.len t33.cap]) ∧
          Calls Tryz.prog 172 #[.slice t33.a t33.len t33.cap] w_4 fun e_3 w_5 =>
          ∃ t34 : Sl, (e_3 = .returned (.slice t34.a t34.len t34.cap)) ∧
          ∃ w_6 : World, ((Instr.storeAt 28 (.pointer ((some ⟨b_l4, 0 + 1, none⟩))) (.slice t34.a t34.len t34.cap)).run Tryz.prog w_5 = .ok () w_6) ∧
          ∃ t37 : Int, ∃ t37_1 : Sl, (At (fun w' => w' = w_6) ⟨b_l4, 0, none⟩ [.int .i64 t37, .slice t37_1.a t37_1.len t37_1.cap]) ∧
          Calls Tryz.prog 159 #[.int .i64 number0, .agg #[.int .i64 t37, .slice t37_1.a t37_1.len t37_1.cap], .slice t14.a t14.len t14.cap] w_6 fun e_4 w_7 =>
          ∃ t39 : Option Addr, (e_4 = .returned (.pointer t39)) ∧
          K (.tuple #[.pointer t39, .int .i64 0]) w_7))))) w
def sk109 : Sk := .leaf
theorem ok109 : fnOk Tryz.prog Tryz.f109.ntmps Tryz.f109 sk109 = true := by kernel_rfl
theorem eq109 (number0 : Int) (l1_0 : Int) (l1_1 : Sl) (parts2 : Sl) (K : Value → World → Prop) (w : World) : fnF Tryz.prog cl Tryz.f109 sk109 [.int .i64 number0, .agg #[.int .i64 l1_0, .slice l1_1.a l1_1.len l1_1.cap], .slice parts2.a parts2.len parts2.cap] K w = B109 number0 l1_0 l1_1 parts2 K w := by kernel_rfl
theorem call109 (number0 : Int) (l1_0 : Int) (l1_1 : Sl) (parts2 : Sl) (K : Value → World → Prop) (w : World) (h : B109 number0 l1_0 l1_1 parts2 K w) : Gets Tryz.prog 109 #[.int .i64 number0, .agg #[.int .i64 l1_0, .slice l1_1.a l1_1.len l1_1.cap], .slice parts2.a parts2.len parts2.cap] w K :=
  calls_of (sk := sk109) cl_ok mixed Tryz.func109 ok109 (args := [.int .i64 number0, .agg #[.int .i64 l1_0, .slice l1_1.a l1_1.len l1_1.cap], .slice parts2.a parts2.len parts2.cap]) (Nat.le_of_ble_eq_true (by kernel_rfl)) (by rw [eq109]; exact h)
def B159 (number0 : Int) (l1_0 : Int) (l1_1 : Sl) (limits2 : Sl) (K : Value → World → Prop) (w : World) : Prop :=
  New (.cells #[.int .i64 l1_0, .slice l1_1.a l1_1.len l1_1.cap] 35 (0, 0)) (fun b_l4 w_1 =>
  Drw w_1 fun S w_2 =>
  ∃ t8 : Int, ∃ t8_1 : Sl, (At S ⟨b_l4, 0, none⟩ [.int .i64 t8, .slice t8_1.a t8_1.len t8_1.cap]) ∧
  (∃ w_3 : World, ∃ t12 : Sl, ((Instr.makeSlice 28 (.int .i64 ((↑limits2.len : Int))) (.int .i64 ((↑limits2.len : Int)))).run Tryz.prog w_2 = .ok (.slice t12.a t12.len t12.cap) w_3) ∧
  (S w_3) ∧
  (New (.map #[] 0) (fun b_t13 w_4 =>
  (S w_4) ∧
  New (.map #[] 0) (fun b_t14 w_5 =>
  (S w_5) ∧
  New (.cells #[.int .i64 number0, .int .i64 t8, .slice t8_1.a t8_1.len t8_1.cap, .slice limits2.a limits2.len limits2.cap, .slice t12.a t12.len t12.cap, .map ((some b_t13)), .map ((some b_t14))] 174 (0, 0)) (fun b_t16 w_6 =>
  (S w_6) ∧
  K (.pointer ((some ⟨b_t16, 0, none⟩))) w_6) w_5) w_4) w_3) ∧
  New (.map #[] 0) (fun b_t14_1 w_7 =>
  (S w_7) ∧
  New (.map #[] 0) (fun b_t13_1 w_8 =>
  (S w_8) ∧
  New (.cells #[.int .i64 number0, .int .i64 t8, .slice t8_1.a t8_1.len t8_1.cap, .slice limits2.a limits2.len limits2.cap, .slice t12.a t12.len t12.cap, .map ((some b_t13_1)), .map ((some b_t14_1))] 174 (0, 0)) (fun b_t16_1 w_9 =>
  (S w_9) ∧
  K (.pointer ((some ⟨b_t16_1, 0, none⟩))) w_9) w_8) w_7) w_3) ∧
  (New (.map #[] 0) (fun b_t13_2 w_10 =>
  (S w_10) ∧
  (∃ w_11 : World, ∃ t12_1 : Sl, ((Instr.makeSlice 28 (.int .i64 ((↑limits2.len : Int))) (.int .i64 ((↑limits2.len : Int)))).run Tryz.prog w_10 = .ok (.slice t12_1.a t12_1.len t12_1.cap) w_11) ∧
  (S w_11) ∧
  New (.map #[] 0) (fun b_t14_2 w_12 =>
  (S w_12) ∧
  New (.cells #[.int .i64 number0, .int .i64 t8, .slice t8_1.a t8_1.len t8_1.cap, .slice limits2.a limits2.len limits2.cap, .slice t12_1.a t12_1.len t12_1.cap, .map ((some b_t13_2)), .map ((some b_t14_2))] 174 (0, 0)) (fun b_t16_2 w_13 =>
  (S w_13) ∧
  K (.pointer ((some ⟨b_t16_2, 0, none⟩))) w_13) w_12) w_11) ∧
  New (.map #[] 0) (fun b_t14_3 w_14 =>
  (S w_14) ∧
  ∃ w_15 : World, ∃ t12_2 : Sl, ((Instr.makeSlice 28 (.int .i64 ((↑limits2.len : Int))) (.int .i64 ((↑limits2.len : Int)))).run Tryz.prog w_14 = .ok (.slice t12_2.a t12_2.len t12_2.cap) w_15) ∧
  (S w_15) ∧
  New (.cells #[.int .i64 number0, .int .i64 t8, .slice t8_1.a t8_1.len t8_1.cap, .slice limits2.a limits2.len limits2.cap, .slice t12_2.a t12_2.len t12_2.cap, .map ((some b_t13_2)), .map ((some b_t14_3))] 174 (0, 0)) (fun b_t16_3 w_16 =>
  (S w_16) ∧
  K (.pointer ((some ⟨b_t16_3, 0, none⟩))) w_16) w_15) w_10) w_2) ∧
  New (.map #[] 0) (fun b_t14_4 w_17 =>
  (S w_17) ∧
  (∃ w_18 : World, ∃ t12_3 : Sl, ((Instr.makeSlice 28 (.int .i64 ((↑limits2.len : Int))) (.int .i64 ((↑limits2.len : Int)))).run Tryz.prog w_17 = .ok (.slice t12_3.a t12_3.len t12_3.cap) w_18) ∧
  (S w_18) ∧
  New (.map #[] 0) (fun b_t13_3 w_19 =>
  (S w_19) ∧
  New (.cells #[.int .i64 number0, .int .i64 t8, .slice t8_1.a t8_1.len t8_1.cap, .slice limits2.a limits2.len limits2.cap, .slice t12_3.a t12_3.len t12_3.cap, .map ((some b_t13_3)), .map ((some b_t14_4))] 174 (0, 0)) (fun b_t16_4 w_20 =>
  (S w_20) ∧
  K (.pointer ((some ⟨b_t16_4, 0, none⟩))) w_20) w_19) w_18) ∧
  New (.map #[] 0) (fun b_t13_4 w_21 =>
  (S w_21) ∧
  ∃ w_22 : World, ∃ t12_4 : Sl, ((Instr.makeSlice 28 (.int .i64 ((↑limits2.len : Int))) (.int .i64 ((↑limits2.len : Int)))).run Tryz.prog w_21 = .ok (.slice t12_4.a t12_4.len t12_4.cap) w_22) ∧
  (S w_22) ∧
  New (.cells #[.int .i64 number0, .int .i64 t8, .slice t8_1.a t8_1.len t8_1.cap, .slice limits2.a limits2.len limits2.cap, .slice t12_4.a t12_4.len t12_4.cap, .map ((some b_t13_4)), .map ((some b_t14_4))] 174 (0, 0)) (fun b_t16_5 w_23 =>
  (S w_23) ∧
  K (.pointer ((some ⟨b_t16_5, 0, none⟩))) w_23) w_22) w_17) w_2) w
def sk159 : Sk := .leaf
theorem ok159 : fnOk Tryz.prog Tryz.f159.ntmps Tryz.f159 sk159 = true := by kernel_rfl
theorem eq159 (number0 : Int) (l1_0 : Int) (l1_1 : Sl) (limits2 : Sl) (K : Value → World → Prop) (w : World) : fnF Tryz.prog cl Tryz.f159 sk159 [.int .i64 number0, .agg #[.int .i64 l1_0, .slice l1_1.a l1_1.len l1_1.cap], .slice limits2.a limits2.len limits2.cap] K w = B159 number0 l1_0 l1_1 limits2 K w := by kernel_rfl
theorem call159 (number0 : Int) (l1_0 : Int) (l1_1 : Sl) (limits2 : Sl) (K : Value → World → Prop) (w : World) (h : B159 number0 l1_0 l1_1 limits2 K w) : Gets Tryz.prog 159 #[.int .i64 number0, .agg #[.int .i64 l1_0, .slice l1_1.a l1_1.len l1_1.cap], .slice limits2.a limits2.len limits2.cap] w K :=
  calls_of (sk := sk159) cl_ok mixed Tryz.func159 ok159 (args := [.int .i64 number0, .agg #[.int .i64 l1_0, .slice l1_1.a l1_1.len l1_1.cap], .slice limits2.a limits2.len limits2.cap]) (Nat.le_of_ble_eq_true (by kernel_rfl)) (by rw [eq159]; exact h)
def B112 (f0 : Option Addr) (owner1 : Int) (class2 : Int) (many3 : Int) (K : Value → World → Prop) (w : World) : Prop :=
  NilP f0 fun a_t15 =>
  ∃ t17 : Option Nat, (At (fun w' => w' = w) ⟨a_t15.block, a_t15.off + 5, none⟩ [.map t17]) ∧
  ∃ t19 : Option Addr, ∃ t19_1 : Bool, (∀ w', (fun w' => w' = w) w' → ((Instr.lookup 171 (.map t17) (.int .i64 owner1) true)).run Tryz.prog w' = .ok (.tuple #[.pointer t19, .bool t19_1]) w') ∧
  ∃ (J : World → Prop), (Br (decide (owner1 < 1))
     (K (.int .i64 1) w)
     (Br (decide (owner1 > 28629151))
       (K (.int .i64 1) w)
       (Br t19_1
         (K (.int .i64 7) w)
         (J  w)))) ∧
  ∀ (z : Env)  (w_1 : World), J  w_1 →
  Drw w_1 fun S w_2 =>
  NilP f0 fun a_t33 =>
  ∃ t35 : Sl, (At S ⟨a_t33.block, a_t33.off + 3, none⟩ [.slice t35.a t35.len t35.cap]) ∧
  NilP f0 fun a_t37 =>
  ∃ t39 : Sl, (At S ⟨a_t37.block, a_t37.off + 4, none⟩ [.slice t39.a t39.len t39.cap]) ∧
  Calls Tryz.prog 178 #[.slice t35.a t35.len t35.cap, .slice t39.a t39.len t39.cap, .int .i64 class2, .int .i64 many3] w_2 fun e w_3 =>
  ∃ t42 : Sl, ∃ t42_1 : Int, (e = .returned (.tuple #[.slice t42.a t42.len t42.cap, .int .i64 t42_1])) ∧
  Br (t42_1 == 0)
   (NilP f0 fun a_t49 =>
    ∃ w_4 : World, ((Instr.storeAt 28 (.pointer ((some ⟨a_t49.block, a_t49.off + 4, none⟩))) (.slice t42.a t42.len t42.cap)).run Tryz.prog w_3 = .ok () w_4) ∧
    NilP f0 fun a_t52 =>
    ∃ t54 : Option Nat, (At (fun w' => w' = w_4) ⟨a_t52.block, a_t52.off + 5, none⟩ [.map t54]) ∧
    New (.cells #[.int .i64 owner1, .int .i64 class2, .int .i64 many3, .slice none 0 0] 176 (0, 0)) (fun b_t60 w_5 =>
    ∃ w_6 : World, ((Instr.mapUpdate 171 (.map t54) (.int .i64 owner1) (.pointer ((some ⟨b_t60, 0, none⟩)))).run Tryz.prog w_5 = .ok () w_6) ∧
    K (.int .i64 t42_1) w_6) w_4)
   (K (.int .i64 t42_1) w_3)
def sk112 : Sk := (.seq .leaf (.seq .leaf (.cut [] [] [8, 22, 23, 24, 25, 26, 27, 28, 29, 30] .leaf .leaf)))
theorem ok112 : fnOk Tryz.prog Tryz.f112.ntmps Tryz.f112 sk112 = true := by kernel_rfl
theorem eq112 (f0 : Option Addr) (owner1 : Int) (class2 : Int) (many3 : Int) (K : Value → World → Prop) (w : World) : fnF Tryz.prog cl Tryz.f112 sk112 [.pointer f0, .int .i64 owner1, .int .i64 class2, .int .i64 many3] K w = B112 f0 owner1 class2 many3 K w := by kernel_rfl
theorem call112 (f0 : Option Addr) (owner1 : Int) (class2 : Int) (many3 : Int) (K : Value → World → Prop) (w : World) (h : B112 f0 owner1 class2 many3 K w) : Gets Tryz.prog 112 #[.pointer f0, .int .i64 owner1, .int .i64 class2, .int .i64 many3] w K :=
  calls_of (sk := sk112) cl_ok mixed Tryz.func112 ok112 (args := [.pointer f0, .int .i64 owner1, .int .i64 class2, .int .i64 many3]) (Nat.le_of_ble_eq_true (by kernel_rfl)) (by rw [eq112]; exact h)
def B115 (f0 : Option Addr) (owner1 : Int) (K : Value → World → Prop) (w : World) : Prop :=
  NilP f0 fun a_t11 =>
  ∃ t13 : Option Nat, (At (fun w' => w' = w) ⟨a_t11.block, a_t11.off + 5, none⟩ [.map t13]) ∧
  ∃ t15 : Option Addr, ∃ t15_1 : Bool, (∀ w', (fun w' => w' = w) w' → ((Instr.lookup 171 (.map t13) (.int .i64 owner1) true)).run Tryz.prog w' = .ok (.tuple #[.pointer t15, .bool t15_1]) w') ∧
  Br (!t15_1)
   (K (.int .i64 2) w)
   (NilP t15 fun a_t21 =>
    ∃ t23 : Sl, (At (fun w' => w' = w) ⟨a_t21.block, a_t21.off + 3, none⟩ [.slice t23.a t23.len t23.cap]) ∧
    ∃ (I : Int → World → Prop) (μ : Int → World → Nat), (I 0 w) ∧ ∀ (z : Env) (t25 : Int) (w_1 : World), I t25 w_1 →
    Br (decide (t25 < (↑t23.len : Int)))
     (Rng t25 t23.len (NilP t23.a fun a_t27 =>
      ∃ t28 : Int, (At (fun w' => w' = w_1) (Addr.add a_t27 t25.toNat) [.int .i64 t28]) ∧
      NilP f0 fun a_t30 =>
      ∃ t32 : Option Nat, (At (fun w' => w' = w_1) ⟨a_t30.block, a_t30.off + 6, none⟩ [.map t32]) ∧
      ∃ w_2 : World, ((Builtin.delete_ #[172, 3] 0 #[.map t32, .int .i64 t28]).run Tryz.prog w_1 = .ok (.tuple #[]) w_2) ∧
      (I (IntKind.i64.wrap (t25 + 1)) w_2) ∧ μ (IntKind.i64.wrap (t25 + 1)) w_2 < μ t25 w_1))
     (Drw w_1 fun S w_3 =>
      NilP f0 fun a_t38 =>
      ∃ t40 : Sl, (At S ⟨a_t38.block, a_t38.off + 3, none⟩ [.slice t40.a t40.len t40.cap]) ∧
      NilP f0 fun a_t42 =>
      ∃ t44 : Sl, (At S ⟨a_t42.block, a_t42.off + 4, none⟩ [.slice t44.a t44.len t44.cap]) ∧
      NilP t15 fun a_t46 =>
      ∃ t48 : Int, (At S ⟨a_t46.block, a_t46.off + 1, none⟩ [.int .i64 t48]) ∧
      NilP t15 fun a_t50 =>
      ∃ t52 : Int, (At S ⟨a_t50.block, a_t50.off + 2, none⟩ [.int .i64 t52]) ∧
      Calls Tryz.prog 184 #[.slice t40.a t40.len t40.cap, .slice t44.a t44.len t44.cap, .int .i64 t48, .int .i64 t52] w_3 fun e w_4 =>
      ∃ t53 : Sl, ∃ t53_1 : Int, (e = .returned (.tuple #[.slice t53.a t53.len t53.cap, .int .i64 t53_1])) ∧
      NilP f0 fun a_t56 =>
      ∃ w_5 : World, ((Instr.storeAt 28 (.pointer ((some ⟨a_t56.block, a_t56.off + 4, none⟩))) (.slice t53.a t53.len t53.cap)).run Tryz.prog w_4 = .ok () w_5) ∧
      NilP f0 fun a_t59 =>
      ∃ t61 : Option Nat, (At (fun w' => w' = w_5) ⟨a_t59.block, a_t59.off + 5, none⟩ [.map t61]) ∧
      ∃ w_6 : World, ((Builtin.delete_ #[171, 3] 0 #[.map t61, .int .i64 owner1]).run Tryz.prog w_5 = .ok (.tuple #[]) w_6) ∧
      K (.int .i64 0) w_6))
def sk115 : Sk := (.seq .leaf (.seq .leaf (.seq .leaf (.seq (.seq .leaf (.block (.loop [25] [(.int .i64)] [8, 25, 26, 27, 28, 29, 30, 31, 32, 33, 34] .leaf))) .leaf))))
theorem ok115 : fnOk Tryz.prog Tryz.f115.ntmps Tryz.f115 sk115 = true := by kernel_rfl
theorem eq115 (f0 : Option Addr) (owner1 : Int) (K : Value → World → Prop) (w : World) : fnF Tryz.prog cl Tryz.f115 sk115 [.pointer f0, .int .i64 owner1] K w = B115 f0 owner1 K w := by kernel_rfl
theorem call115 (f0 : Option Addr) (owner1 : Int) (K : Value → World → Prop) (w : World) (h : B115 f0 owner1 K w) : Gets Tryz.prog 115 #[.pointer f0, .int .i64 owner1] w K :=
  calls_of (sk := sk115) cl_ok mixed Tryz.func115 ok115 (args := [.pointer f0, .int .i64 owner1]) (Nat.le_of_ble_eq_true (by kernel_rfl)) (by rw [eq115]; exact h)
def B186 (f0 : Option Addr) (owner1 : Int) (label2 : ByteArray) (K : Value → World → Prop) (w : World) : Prop :=
  NilP f0 fun a_t15 =>
  ∃ t17 : Option Nat, (At (fun w' => w' = w) ⟨a_t15.block, a_t15.off + 5, none⟩ [.map t17]) ∧
  ∃ t19 : Option Addr, ∃ t19_1 : Bool, (∀ w', (fun w' => w' = w) w' → ((Instr.lookup 171 (.map t17) (.int .i64 owner1) true)).run Tryz.prog w' = .ok (.tuple #[.pointer t19, .bool t19_1]) w') ∧
  NilP f0 fun a_t24 =>
  ∃ t26 : Int, ∃ t26_1 : Sl, (At (fun w' => w' = w) ⟨a_t24.block, a_t24.off + 1, none⟩ [.int .i64 t26, .slice t26_1.a t26_1.len t26_1.cap]) ∧
  Calls Tryz.prog 234 #[.agg #[.int .i64 t26, .slice t26_1.a t26_1.len t26_1.cap], .string label2] w fun e w_1 =>
  ∃ t28 : Int, ∃ t28_1 : Int, (e = .returned (.tuple #[.int .i64 t28, .int .i64 t28_1])) ∧
  Br t19_1
   (K (.tuple #[.pointer t19, .int .i64 t28, .bool (t28_1 == 0)]) w_1)
   (K (.tuple #[.pointer t19, .int .i64 t28, .bool false]) w_1)
def sk186 : Sk := .leaf
theorem ok186 : fnOk Tryz.prog Tryz.f186.ntmps Tryz.f186 sk186 = true := by kernel_rfl
theorem eq186 (f0 : Option Addr) (owner1 : Int) (label2 : ByteArray) (K : Value → World → Prop) (w : World) : fnF Tryz.prog cl Tryz.f186 sk186 [.pointer f0, .int .i64 owner1, .string label2] K w = B186 f0 owner1 label2 K w := by kernel_rfl
theorem call186 (f0 : Option Addr) (owner1 : Int) (label2 : ByteArray) (K : Value → World → Prop) (w : World) (h : B186 f0 owner1 label2 K w) : Gets Tryz.prog 186 #[.pointer f0, .int .i64 owner1, .string label2] w K :=
  calls_of (sk := sk186) cl_ok mixed Tryz.func186 ok186 (args := [.pointer f0, .int .i64 owner1, .string label2]) (Nat.le_of_ble_eq_true (by kernel_rfl)) (by rw [eq186]; exact h)
def B187 (f0 : Option Addr) (h1 : Option Addr) (n2 : Int) (K : Value → World → Prop) (w : World) : Prop :=
  NilP h1 fun a_t10 =>
  ∃ t12 : Sl, (At (fun w' => w' = w) ⟨a_t10.block, a_t10.off + 3, none⟩ [.slice t12.a t12.len t12.cap]) ∧
  Calls Tryz.prog 235 #[.slice t12.a t12.len t12.cap, .int .i64 n2] w fun e w_1 =>
  ∃ t14 : Int, ∃ t14_1 : Bool, (e = .returned (.tuple #[.int .i64 t14, .bool t14_1])) ∧
  NilP h1 fun a_t19 =>
  ∃ t21 : Sl, (At (fun w' => w' = w_1) ⟨a_t19.block, a_t19.off + 3, none⟩ [.slice t21.a t21.len t21.cap]) ∧
  New (.cells #[.int .i64 n2] 3 (0, 0)) (fun b_t24 w_2 =>
  Calls Tryz.prog 236 #[.slice t21.a t21.len t21.cap, .int .i64 t14, .slice ((some ⟨b_t24, 0, none⟩)) 1 1] w_2 fun e_1 w_3 =>
  ∃ t25 : Sl, (e_1 = .returned (.slice t25.a t25.len t25.cap)) ∧
  NilP h1 fun a_t26 =>
  ∃ w_4 : World, ((Instr.storeAt 28 (.pointer ((some ⟨a_t26.block, a_t26.off + 3, none⟩))) (.slice t25.a t25.len t25.cap)).run Tryz.prog w_3 = .ok () w_4) ∧
  Drw w_4 fun S w_5 =>
  NilP f0 fun a_t29 =>
  ∃ t31 : Option Nat, (At S ⟨a_t29.block, a_t29.off + 6, none⟩ [.map t31]) ∧
  NilP h1 fun a_t34 =>
  ∃ t36 : Int, (At S (Addr.add a_t34 0) [.int .i64 t36]) ∧
  ∃ w_6 : World, ((Instr.mapUpdate 172 (.map t31) (.int .i64 n2) (.int .i64 t36)).run Tryz.prog w_5 = .ok () w_6) ∧
  K (.tuple #[]) w_6) w_1
def sk187 : Sk := .leaf
theorem ok187 : fnOk Tryz.prog Tryz.f187.ntmps Tryz.f187 sk187 = true := by kernel_rfl
theorem eq187 (f0 : Option Addr) (h1 : Option Addr) (n2 : Int) (K : Value → World → Prop) (w : World) : fnF Tryz.prog cl Tryz.f187 sk187 [.pointer f0, .pointer h1, .int .i64 n2] K w = B187 f0 h1 n2 K w := by kernel_rfl
theorem call187 (f0 : Option Addr) (h1 : Option Addr) (n2 : Int) (K : Value → World → Prop) (w : World) (h : B187 f0 h1 n2 K w) : Gets Tryz.prog 187 #[.pointer f0, .pointer h1, .int .i64 n2] w K :=
  calls_of (sk := sk187) cl_ok mixed Tryz.func187 ok187 (args := [.pointer f0, .pointer h1, .int .i64 n2]) (Nat.le_of_ble_eq_true (by kernel_rfl)) (by rw [eq187]; exact h)
def B117 (f0 : Option Addr) (owner1 : Int) (label2 : ByteArray) (K : Value → World → Prop) (w : World) : Prop :=
  Calls Tryz.prog 186 #[.pointer f0, .int .i64 owner1, .string label2] w fun e w_1 =>
  ∃ t16 : Option Addr, ∃ t16_1 : Int, ∃ t16_2 : Bool, (e = .returned (.tuple #[.pointer t16, .int .i64 t16_1, .bool t16_2])) ∧
  NilP f0 fun a_t22 =>
  ∃ t24 : Option Nat, (At (fun w' => w' = w_1) ⟨a_t22.block, a_t22.off + 6, none⟩ [.map t24]) ∧
  ∃ t26 : Int, ∃ t26_1 : Bool, (∀ w', (fun w' => w' = w_1) w' → ((Instr.lookup 172 (.map t24) (.int .i64 t16_1) true)).run Tryz.prog w' = .ok (.tuple #[.int .i64 t26, .bool t26_1]) w') ∧
  Br (!t16_2)
   (K (.int .i64 2) w_1)
   (Drw w_1 fun S w_2 =>
    NilP t16 fun a_t34 =>
    ∃ t36 : Sl, (At S ⟨a_t34.block, a_t34.off + 3, none⟩ [.slice t36.a t36.len t36.cap]) ∧
    NilP t16 fun a_t39 =>
    ∃ t41 : Int, (At S ⟨a_t39.block, a_t39.off + 2, none⟩ [.int .i64 t41]) ∧
    Br (decide ((↑t36.len : Int) ≥ t41))
     (K (.int .i64 7) w_2)
     (Br t26_1
       (K (.int .i64 3) w_2)
       (Calls Tryz.prog 187 #[.pointer f0, .pointer t16, .int .i64 t16_1] w_2 fun e_1 w_3 =>
        (e_1 = .returned (.tuple #[])) ∧
        K (.int .i64 0) w_3)))
def sk117 : Sk := .leaf
theorem ok117 : fnOk Tryz.prog Tryz.f117.ntmps Tryz.f117 sk117 = true := by kernel_rfl
theorem eq117 (f0 : Option Addr) (owner1 : Int) (label2 : ByteArray) (K : Value → World → Prop) (w : World) : fnF Tryz.prog cl Tryz.f117 sk117 [.pointer f0, .int .i64 owner1, .string label2] K w = B117 f0 owner1 label2 K w := by kernel_rfl
theorem call117 (f0 : Option Addr) (owner1 : Int) (label2 : ByteArray) (K : Value → World → Prop) (w : World) (h : B117 f0 owner1 label2 K w) : Gets Tryz.prog 117 #[.pointer f0, .int .i64 owner1, .string label2] w K :=
  calls_of (sk := sk117) cl_ok mixed Tryz.func117 ok117 (args := [.pointer f0, .int .i64 owner1, .string label2]) (Nat.le_of_ble_eq_true (by kernel_rfl)) (by rw [eq117]; exact h)
def B118 (f0 : Option Addr) (owner1 : Int) (K : Value → World → Prop) (w : World) : Prop :=
  NilP f0 fun a_t14 =>
  ∃ t16 : Option Nat, (At (fun w' => w' = w) ⟨a_t14.block, a_t14.off + 5, none⟩ [.map t16]) ∧
  ∃ t18 : Option Addr, ∃ t18_1 : Bool, (∀ w', (fun w' => w' = w) w' → ((Instr.lookup 171 (.map t16) (.int .i64 owner1) true)).run Tryz.prog w' = .ok (.tuple #[.pointer t18, .bool t18_1]) w') ∧
  Br (!t18_1)
   (K (.tuple #[.slice none 0 0, .int .i64 2]) w)
   (NilP t18 fun a_t26 =>
    ∃ t28 : Sl, (At (fun w' => w' = w) ⟨a_t26.block, a_t26.off + 3, none⟩ [.slice t28.a t28.len t28.cap]) ∧
    Br (decide ((↑t28.len : Int) > 0))
     (K (.tuple #[.slice none 0 0, .int .i64 7]) w)
     (Drw w fun S w_1 =>
      NilP f0 fun a_t33 =>
      ∃ t35 : Int, ∃ t35_1 : Sl, (At S ⟨a_t33.block, a_t33.off + 1, none⟩ [.int .i64 t35, .slice t35_1.a t35_1.len t35_1.cap]) ∧
      NilP f0 fun a_t37 =>
      ∃ t39 : Option Nat, (At S ⟨a_t37.block, a_t37.off + 6, none⟩ [.map t39]) ∧
      NilP t18 fun a_t43 =>
      ∃ t45 : Int, (At S ⟨a_t43.block, a_t43.off + 2, none⟩ [.int .i64 t45]) ∧
      Calls Tryz.prog 189 #[.map t39] w_1 fun e w_2 =>
      ∃ t40 : Value, (e = .returned (t40)) ∧
      (S w_2) ∧
      Calls Tryz.prog 121 #[t40] w_2 fun e_1 w_3 =>
      ∃ t41 : Sl, (e_1 = .returned (.slice t41.a t41.len t41.cap)) ∧
      (S w_3) ∧
      Calls Tryz.prog 188 #[.agg #[.int .i64 t35, .slice t35_1.a t35_1.len t35_1.cap], .slice t41.a t41.len t41.cap, .int .i64 t45] w_3 fun e_2 w_4 =>
      ∃ t46 : Sl, ∃ t46_1 : Int, (e_2 = .returned (.tuple #[.slice t46.a t46.len t46.cap, .int .i64 t46_1])) ∧
      (S w_4) ∧
      ∃ (I : Int → World → Prop) (μ : Int → World → Nat), (I 0 w_4) ∧ ∀ (z : Env) (t51 : Int) (w_5 : World), I t51 w_5 →
      Br (decide (t51 < (↑t46.len : Int)))
       (Rng t51 t46.len (NilP t46.a fun a_t53 =>
        ∃ t54 : Int, (At (fun w' => w' = w_5) (Addr.add a_t53 t51.toNat) [.int .i64 t54]) ∧
        Calls Tryz.prog 187 #[.pointer f0, .pointer t18, .int .i64 t54] w_5 fun e_3 w_6 =>
        (e_3 = .returned (.tuple #[])) ∧
        (I (IntKind.i64.wrap (t51 + 1)) w_6) ∧ μ (IntKind.i64.wrap (t51 + 1)) w_6 < μ t51 w_5))
       (Calls Tryz.prog 190 #[.pointer f0, .slice t46.a t46.len t46.cap] w_5 fun e_4 w_7 =>
        ∃ t62 : Sl, (e_4 = .returned (.slice t62.a t62.len t62.cap)) ∧
        K (.tuple #[.slice t62.a t62.len t62.cap, .int .i64 t46_1]) w_7)))
def sk118 : Sk := (.seq .leaf (.seq .leaf (.seq .leaf (.seq .leaf (.seq (.seq .leaf (.block (.loop [51] [(.int .i64)] [11, 51, 52, 53, 54, 55, 56, 57, 58, 59] .leaf))) .leaf)))))
theorem ok118 : fnOk Tryz.prog Tryz.f118.ntmps Tryz.f118 sk118 = true := by kernel_rfl
theorem eq118 (f0 : Option Addr) (owner1 : Int) (K : Value → World → Prop) (w : World) : fnF Tryz.prog cl Tryz.f118 sk118 [.pointer f0, .int .i64 owner1] K w = B118 f0 owner1 K w := by kernel_rfl
theorem call118 (f0 : Option Addr) (owner1 : Int) (K : Value → World → Prop) (w : World) (h : B118 f0 owner1 K w) : Gets Tryz.prog 118 #[.pointer f0, .int .i64 owner1] w K :=
  calls_of (sk := sk118) cl_ok mixed Tryz.func118 ok118 (args := [.pointer f0, .int .i64 owner1]) (Nat.le_of_ble_eq_true (by kernel_rfl)) (by rw [eq118]; exact h)
def B58 (f0 : Option Addr) (K : Value → World → Prop) (w : World) : Prop :=
  NilP f0 fun a_t6 =>
  ∃ t8 : Sl, (At (fun w' => w' = w) ⟨a_t6.block, a_t6.off + 3, none⟩ [.slice t8.a t8.len t8.cap]) ∧
  ∃ w_1 : World, ∃ t10 : Sl, ((Instr.makeSlice 28 (.int .i64 ((↑t8.len : Int))) (.int .i64 ((↑t8.len : Int)))).run Tryz.prog w = .ok (.slice t10.a t10.len t10.cap) w_1) ∧
  ∃ (I : Int → World → Prop) (μ : Int → World → Nat), (I 0 w_1) ∧ ∀ (z : Env) (t13 : Int) (w_2 : World), I t13 w_2 →
  Br (decide (t13 < (↑t10.len : Int)))
   (Drw w_2 fun S w_3 =>
    NilP f0 fun a_t20 =>
    ∃ t22 : Sl, (At S ⟨a_t20.block, a_t20.off + 3, none⟩ [.slice t22.a t22.len t22.cap]) ∧
    NilP f0 fun a_t24 =>
    ∃ t26 : Sl, (At S ⟨a_t24.block, a_t24.off + 4, none⟩ [.slice t26.a t26.len t26.cap]) ∧
    Calls Tryz.prog 131 #[.slice t22.a t22.len t22.cap, .slice t26.a t26.len t26.cap, .int .i64 t13] w_3 fun e w_4 =>
    ∃ t28 : Int, ∃ t28_1 : Int, (e = .returned (.tuple #[.int .i64 t28, .int .i64 t28_1])) ∧
    Rng t13 t10.len (NilP t10.a fun a_t31 =>
    ∃ w_5 : World, ((Instr.storeAt 3 (.pointer ((some (Addr.add a_t31 t13.toNat)))) (.int .i64 t28)).run Tryz.prog w_4 = .ok () w_5) ∧
    (I (IntKind.i64.wrap (t13 + 1)) w_5) ∧ μ (IntKind.i64.wrap (t13 + 1)) w_5 < μ t13 w_2))
   (K (.slice t10.a t10.len t10.cap) w_2)
def sk58 : Sk := (.seq .leaf (.seq .leaf (.seq (.seq .leaf (.block (.loop [13] [(.int .i64)] [4, 13, 14, 15, 16, 17, 18, 19, 20, 21, 22, 23, 24, 25, 26, 27, 28, 29, 30, 31, 32] .leaf))) .leaf)))
theorem ok58 : fnOk Tryz.prog Tryz.f58.ntmps Tryz.f58 sk58 = true := by kernel_rfl
theorem eq58 (f0 : Option Addr) (K : Value → World → Prop) (w : World) : fnF Tryz.prog cl Tryz.f58 sk58 [.pointer f0] K w = B58 f0 K w := by kernel_rfl
theorem call58 (f0 : Option Addr) (K : Value → World → Prop) (w : World) (h : B58 f0 K w) : Gets Tryz.prog 58 #[.pointer f0] w K :=
  calls_of (sk := sk58) cl_ok mixed Tryz.func58 ok58 (args := [.pointer f0]) (Nat.le_of_ble_eq_true (by kernel_rfl)) (by rw [eq58]; exact h)
def B130 (f0 : Option Addr) (owner1 : Int) (K : Value → World → Prop) (w : World) : Prop :=
  NilP f0 fun a_t9 =>
  ∃ t11 : Option Nat, (At (fun w' => w' = w) ⟨a_t9.block, a_t9.off + 5, none⟩ [.map t11]) ∧
  ∃ t13 : Option Addr, ∃ t13_1 : Bool, (∀ w', (fun w' => w' = w) w' → ((Instr.lookup 171 (.map t11) (.int .i64 owner1) true)).run Tryz.prog w' = .ok (.tuple #[.pointer t13, .bool t13_1]) w') ∧
  Br (!t13_1)
   (K (.slice none 0 0) w)
   (NilP t13 fun a_t20 =>
    ∃ t22 : Sl, (At (fun w' => w' = w) ⟨a_t20.block, a_t20.off + 3, none⟩ [.slice t22.a t22.len t22.cap]) ∧
    Calls Tryz.prog 190 #[.pointer f0, .slice t22.a t22.len t22.cap] w fun e w_1 =>
    ∃ t23 : Sl, (e = .returned (.slice t23.a t23.len t23.cap)) ∧
    K (.slice t23.a t23.len t23.cap) w_1)
def sk130 : Sk := .leaf
theorem ok130 : fnOk Tryz.prog Tryz.f130.ntmps Tryz.f130 sk130 = true := by kernel_rfl
theorem eq130 (f0 : Option Addr) (owner1 : Int) (K : Value → World → Prop) (w : World) : fnF Tryz.prog cl Tryz.f130 sk130 [.pointer f0, .int .i64 owner1] K w = B130 f0 owner1 K w := by kernel_rfl
theorem call130 (f0 : Option Addr) (owner1 : Int) (K : Value → World → Prop) (w : World) (h : B130 f0 owner1 K w) : Gets Tryz.prog 130 #[.pointer f0, .int .i64 owner1] w K :=
  calls_of (sk := sk130) cl_ok mixed Tryz.func130 ok130 (args := [.pointer f0, .int .i64 owner1]) (Nat.le_of_ble_eq_true (by kernel_rfl)) (by rw [eq130]; exact h)
def B190 (f0 : Option Addr) (l1 : Sl) (K : Value → World → Prop) (w : World) : Prop :=
  ∃ (I : Sl → Int → World → Prop) (μ : Sl → Int → World → Nat), (I ⟨none, 0, 0⟩ 0 w) ∧ ∀ (z : Env) (out5 : Sl) (t12 : Int) (w_1 : World), I out5 t12 w_1 →
  Br (decide (t12 < (↑l1.len : Int)))
   (Rng t12 l1.len (NilP l1.a fun a_t14 =>
    ∃ t15 : Int, (At (fun w' => w' = w_1) (Addr.add a_t14 t12.toNat) [.int .i64 t15]) ∧
    NilP f0 fun a_t18 =>
    ∃ t20 : Int, ∃ t20_1 : Sl, (At (fun w' => w' = w_1) ⟨a_t18.block, a_t18.off + 1, none⟩ [.int .i64 t20, .slice t20_1.a t20_1.len t20_1.cap]) ∧
    Calls Tryz.prog 240 #[.agg #[.int .i64 t20, .slice t20_1.a t20_1.len t20_1.cap], .int .i64 t15] w_1 fun e w_2 =>
    ∃ t22 : ByteArray, ∃ t22_1 : Int, (e = .returned (.tuple #[.string t22, .int .i64 t22_1])) ∧
    New (.cells #[.string t22] 9 (0, 0)) (fun b_t27 w_3 =>
    ∃ w_4 : World, ∃ t28 : Sl, ((Builtin.append_ #[29, 29] 29 #[.slice out5.a out5.len out5.cap, .slice ((some ⟨b_t27, 0, none⟩)) 1 1]).run Tryz.prog w_3 = .ok (.slice t28.a t28.len t28.cap) w_4) ∧
    (I t28 (IntKind.i64.wrap (t12 + 1)) w_4) ∧ μ t28 (IntKind.i64.wrap (t12 + 1)) w_4 < μ out5 t12 w_1) w_2))
   (K (.slice out5.a out5.len out5.cap) w_1)
def sk190 : Sk := (.seq .leaf (.seq .leaf (.seq (.seq .leaf (.block (.loop [5, 12] [.sl, (.int .i64)] [5, 7, 8, 9, 12, 13, 14, 15, 16, 17, 18, 19, 20, 21, 22, 23, 24, 25, 26, 27, 28, 29] .leaf))) .leaf)))
theorem ok190 : fnOk Tryz.prog Tryz.f190.ntmps Tryz.f190 sk190 = true := by kernel_rfl
theorem eq190 (f0 : Option Addr) (l1 : Sl) (K : Value → World → Prop) (w : World) : fnF Tryz.prog cl Tryz.f190 sk190 [.pointer f0, .slice l1.a l1.len l1.cap] K w = B190 f0 l1 K w := by kernel_rfl
theorem call190 (f0 : Option Addr) (l1 : Sl) (K : Value → World → Prop) (w : World) (h : B190 f0 l1 K w) : Gets Tryz.prog 190 #[.pointer f0, .slice l1.a l1.len l1.cap] w K :=
  calls_of (sk := sk190) cl_ok mixed Tryz.func190 ok190 (args := [.pointer f0, .slice l1.a l1.len l1.cap]) (Nat.le_of_ble_eq_true (by kernel_rfl)) (by rw [eq190]; exact h)
end Go.Proofs.YtfgbbckfikiomaaGreatDoor




/- Packages seat and reference 13: layouts. Condition: none. -/
namespace Go.Proofs.YtfgbbckfikiomaaGreatDoor
set_option linter.unusedVariables false
open Go Go.VC
variable {R : Cx} {Hs Rest : List HP} {w : World}
theorem sum_app : ∀ a b : List Int, (a ++ b).sum = a.sum + b.sum
  | [], b => by simp
  | x :: a, b => by simp only [List.cons_append, List.sum_cons, sum_app a b]; omega
theorem sum_take {g : List Int} {j : Nat} (h : j < g.length) : (g.take (j + 1)).sum = (g.take j).sum + g[j] := by
  rw [List.take_add_one, List.getElem?_eq_getElem h, sum_app]
  simp
theorem sum_bd {g : List Int} (h : ∀ x ∈ g, 0 ≤ x ∧ x ≤ 10) : 0 ≤ g.sum ∧ g.sum ≤ 10 * g.length := by
  induction g with
  | nil => simp
  | cons a g ih =>
    have := ih fun x hx => h x (List.mem_cons_of_mem _ hx)
    have := h a List.mem_cons_self
    simp only [List.sum_cons, List.length_cons]
    omega
def grpsOk (g : List Int) : Bool := g.all fun x => decide (1 ≤ x ∧ x ≤ 10)
def layOk (n : Int) (g : List Int) : Bool := decide (1 ≤ n ∧ n ≤ 60 ∧ 1 ≤ g.length ∧ g.length ≤ 4) && (grpsOk g && decide (g.sum ≤ 10))
def layN (n : Int) (g : List Int) : Int := if layOk n g then n * g.sum else 0
theorem layOk_iff {n : Int} {g : List Int} : layOk n g = true ↔ (1 ≤ n ∧ n ≤ 60 ∧ 1 ≤ g.length ∧ g.length ≤ 4) ∧ (∀ x ∈ g, 1 ≤ x ∧ x ≤ 10) ∧ g.sum ≤ 10 := by
  simp [layOk, grpsOk]
theorem sum_pos {g : List Int} (h : ∀ x ∈ g, 1 ≤ x ∧ x ≤ 10) (hl : 1 ≤ g.length) : 1 ≤ g.sum := by
  match g, hl with
  | a :: g, _ =>
    have h1 := h a List.mem_cons_self
    have h2 := sum_bd (g := g) fun x hx => by have := h x (List.mem_cons_of_mem _ hx); omega
    simp only [List.sum_cons]; omega
theorem layN_ok {n : Int} {g : List Int} (h : layOk n g = true) : layN n g = n * g.sum := by unfold layN; rw [if_pos h]
theorem mul_bd {a b : Int} (h0 : 0 ≤ a) (h1 : a ≤ 60) (h2 : 0 ≤ b) (h3 : b ≤ 10) : 0 ≤ a * b ∧ a * b ≤ 600 :=
  ⟨Int.mul_nonneg h0 h2, by have := Int.mul_le_mul h1 h3 h2 (by omega); omega⟩
theorem layN_bd (n : Int) (g : List Int) : 0 ≤ layN n g ∧ layN n g ≤ 600 := by
  unfold layN
  split
  · rename_i h
    obtain ⟨h1, h2, h3⟩ := layOk_iff.1 h
    have := sum_bd (fun x hx => by have := h2 x hx; omega) (g := g)
    exact mul_bd (by omega) (by omega) (by omega) (by omega)
  · omega
abbrev layC (n : Int) (s : Sl) : Obj := .cells [.int .i64 n, .slice s.a s.len s.cap].toArray 35 (0, 0)
theorem across_spec {n : Int} {s : Sl} {g : List Int} (hs : RoI R s g) (hg : ∀ x ∈ g, 0 ≤ x ∧ x ≤ 10) (hl : g.length ≤ 4) (hw : Sat R Hs w) :
    Gets Tryz.prog 217 #[.agg #[.int .i64 n, .slice s.a s.len s.cap]] w fun v w' => v = .int .i64 g.sum ∧ Sat R Hs w' := by
  have hlen := hs.len
  apply call217
  refine new_rule hw fun p w hw => ?_
  have hw : Sat R (pts p (layC n s) :: Hs) w := hw
  refine ⟨s, At.own (eqS hw) (by exact ⟨rfl, trivial⟩), ?_⟩
  refine ⟨fun m i w => ∃ j : Nat, i = j ∧ j ≤ g.length ∧ m = (g.take j).sum ∧ Sat R (pts p (layC n s) :: Hs) w, fun _ i _ => g.length - i.toNat, ⟨0, rfl, by omega, by simp, hw⟩, ?_⟩
  clear hw
  rintro _ _ _ w ⟨j, rfl, hj, rfl, hw⟩
  refine Br.d (fun h => ?_) (fun h => ?_)
  · have hj2 : j < g.length := by omega
    refine hs.idx (eqS hw) hj2 ?_
    have hb := sum_bd (fun x hx => hg x (List.mem_of_mem_take hx)) (g := g.take j)
    have hb2 : (g.take j).length ≤ 4 := by rw [List.length_take]; omega
    have hx := hg g[j] (List.getElem_mem _)
    rw [wrap64 (x := (j : Int) + 1) (by omega) (by omega), wrap64 (by omega) (by omega)]
    exact ⟨⟨j + 1, by omega, by omega, (sum_take hj2).symm, hw⟩, by dsimp only; omega⟩
  · rw [List.take_of_length_le (by omega)]
    exact ⟨rfl, hw.drop⟩
theorem idxF_spec {s : Sl} {l : List Int} {f : Value} {p : Int → Bool} (hs : RoI R s l) (hf : ∀ x w, Sat R Hs w → CalW Tryz.prog cl f [.int .i64 x] w fun e w' => e = .returned (.bool (p x)) ∧ Sat R Hs w') (hw : Sat R Hs w) :
    Gets Tryz.prog 257 #[.slice s.a s.len s.cap, f] w fun v w' => (∃ n : Int, v = .int .i64 n ∧ (l.any p = true ↔ 0 ≤ n)) ∧ Sat R Hs w' := by
  have hlen := hs.len
  have hbd := hs.bound
  apply call257
  refine ⟨fun i w => ∃ j : Nat, i = j ∧ j ≤ l.length ∧ (l.take j).any p = false ∧ Sat R Hs w, fun i _ => l.length - i.toNat, ⟨0, rfl, by omega, by simp, hw⟩, ?_⟩
  clear hw
  rintro _ _ w ⟨j, rfl, hj, hn, hw⟩
  refine Br.d (fun h => ?_) (fun h => ?_)
  · have hj2 : j < l.length := by omega
    refine hs.idx (eqS hw) hj2 ?_
    refine (hf l[j] _ hw).mono ?_
    rintro _ w ⟨rfl, hw⟩
    refine ⟨_, rfl, Br.mk (fun h => ⟨⟨j, rfl, ⟨fun _ => by omega, fun _ => List.any_eq_true.2 ⟨_, List.getElem_mem _, h⟩⟩⟩, hw⟩) (fun h => ?_)⟩
    rw [wrap64 (by omega) (by omega)]
    refine ⟨⟨j + 1, by omega, by omega, ?_, hw⟩, by dsimp only; omega⟩
    rw [List.take_add_one, List.getElem?_eq_getElem hj2, List.any_append, hn]
    simp [h]
  · refine ⟨⟨-1, rfl, ⟨fun h2 => ?_, fun h2 => by omega⟩⟩, hw⟩
    rw [List.take_of_length_le (by omega)] at hn
    rw [hn] at h2; cases h2
theorem contF_spec {s : Sl} {l : List Int} {f : Value} {p : Int → Bool} (hs : RoI R s l) (hf : ∀ x w, Sat R Hs w → CalW Tryz.prog cl f [.int .i64 x] w fun e w' => e = .returned (.bool (p x)) ∧ Sat R Hs w') (hw : Sat R Hs w) :
    Gets Tryz.prog 216 #[.slice s.a s.len s.cap, f] w fun v w' => v = .bool (l.any p) ∧ Sat R Hs w' := by
  apply call216
  refine (idxF_spec hs hf hw).use ?_
  rintro _ w ⟨⟨n, rfl, h⟩, hw⟩
  refine ⟨n, rfl, ?_, hw⟩
  congr 1
  rw [Bool.eq_iff_iff, decide_eq_true_iff]
  exact h.symm
theorem odd_spec {g : Int} (hw : Sat R Hs w) : Gets Tryz.prog 215 #[.int .i64 g] w fun v w' => v = .bool (!decide (1 ≤ g ∧ g ≤ 10)) ∧ Sat R Hs w' := by
  apply call215
  refine Br.d (fun h => ⟨?_, hw⟩) (fun h => ⟨?_, hw⟩)
  · rw [decide_eq_false (by omega)]; rfl
  · congr 1
    rw [← decide_not, decide_eq_decide]; omega
theorem layOk_no {n : Int} {g : List Int} (h : ¬ ((1 ≤ n ∧ n ≤ 60 ∧ 1 ≤ g.length ∧ g.length ≤ 4) ∧ (∀ x ∈ g, 1 ≤ x ∧ x ≤ 10) ∧ g.sum ≤ 10)) : layOk n g = false := by
  rw [← Bool.not_eq_true, layOk_iff]; exact h
theorem right_spec {n : Int} {s : Sl} {g : List Int} (hs : RoI R s g) (hw : Sat R Hs w) :
    Gets Tryz.prog 160 #[.agg #[.int .i64 n, .slice s.a s.len s.cap]] w fun v w' => v = .bool (layOk n g) ∧ Sat R Hs w' := by
  have hlen := hs.len
  apply call160
  refine new_rule hw fun p w hw => ?_
  have hw : Sat R (pts p (layC n s) :: Hs) w := hw
  refine ⟨n, At.own (eqS hw) (by exact ⟨rfl, trivial⟩), Br.d (fun h1 => ⟨by rw [layOk_no (fun h => by omega)], hw.drop⟩) (fun h1 => ?_)⟩
  refine ⟨n, At.own (eqS hw) (by exact ⟨rfl, trivial⟩), Br.d (fun h2 => ⟨by rw [layOk_no (fun h => by omega)], hw.drop⟩) (fun h2 => ?_)⟩
  refine ⟨s, At.own (eqS hw) (by exact ⟨rfl, trivial⟩), Br.d (fun h3 => ⟨by rw [layOk_no (fun h => by omega)], hw.drop⟩) (fun h3 => ?_)⟩
  refine ⟨s, At.own (eqS hw) (by exact ⟨rfl, trivial⟩), Br.d (fun h4 => ⟨by rw [layOk_no (fun h => by omega)], hw.drop⟩) (fun h4 => ?_)⟩
  refine ⟨s, At.own (eqS hw) (by exact ⟨rfl, trivial⟩), ?_⟩
  refine (contF_spec (p := fun x => !decide (1 ≤ x ∧ x ≤ 10)) hs (fun x w hw => CalW.mk (by kernel_rfl) ((odd_spec hw).use fun v w' h => ⟨by rw [h.1], h.2⟩)) hw).use ?_
  rintro _ w ⟨rfl, hw⟩
  refine ⟨_, rfl, Br.mk (fun h5 => ⟨?_, hw.drop⟩) (fun h5 => ?_)⟩
  · rw [layOk_no (fun h => ?_)]
    obtain ⟨x, hx, hx2⟩ := List.any_eq_true.1 h5
    have := h.2.1 x hx
    rw [decide_eq_true this] at hx2; cases hx2
  have hg : ∀ x ∈ g, 1 ≤ x ∧ x ≤ 10 := fun x hx => by
    by_cases h : 1 ≤ x ∧ x ≤ 10
    · exact h
    · have : (g.any fun x => !decide (1 ≤ x ∧ x ≤ 10)) = true := List.any_eq_true.2 ⟨x, hx, by rw [decide_eq_false h]; rfl⟩
      rw [h5] at this; cases this
  refine ⟨n, s, At.own (eqS hw) (by exact ⟨rfl, rfl, trivial⟩), ?_⟩
  refine (across_spec hs (fun x hx => by have := hg x hx; omega) (by omega) hw).use ?_
  rintro _ w ⟨rfl, hw⟩
  refine ⟨_, rfl, ?_, hw.drop⟩
  congr 1
  rw [Bool.eq_iff_iff, decide_eq_true_iff, layOk_iff]
  exact ⟨fun h => ⟨⟨by omega, by omega, by omega, by omega⟩, hg, h⟩, fun h => h.2.2⟩
theorem count_spec {n : Int} {s : Sl} {g : List Int} (hs : RoI R s g) (hw : Sat R Hs w) :
    Gets Tryz.prog 162 #[.agg #[.int .i64 n, .slice s.a s.len s.cap]] w fun v w' => v = .int .i64 (layN n g) ∧ Sat R Hs w' := by
  apply call162
  refine new_rule hw fun p w hw => ?_
  have hw : Sat R (pts p (layC n s) :: Hs) w := hw
  refine ⟨n, s, At.own (eqS hw) (by exact ⟨rfl, rfl, trivial⟩), ?_⟩
  refine (right_spec hs hw).use ?_
  rintro _ w ⟨rfl, hw⟩
  refine ⟨_, rfl, Br.nb (fun h => ⟨?_, hw.drop⟩) (fun h => ?_)⟩
  · unfold layN; rw [h]; rfl
  obtain ⟨h1, h2, h3⟩ := layOk_iff.1 h
  refine drw_rule hw fun w hw => ?_
  refine ⟨n, At.own selfS (by exact ⟨rfl, trivial⟩), n, s, At.own selfS (by exact ⟨rfl, rfl, trivial⟩), ?_⟩
  refine (across_spec hs (fun x hx => by have := h2 x hx; omega) (by omega) hw).use ?_
  rintro _ w ⟨rfl, hw⟩
  have hb := layN_bd n g
  rw [layN_ok h] at hb ⊢
  refine ⟨_, rfl, hw, ?_, hw.drop⟩
  rw [wrap64 (by omega) (by omega)]
theorem shas_spec {n k : Int} {s : Sl} {g : List Int} (hs : RoI R s g) (hw : Sat R Hs w) :
    Gets Tryz.prog 237 #[.agg #[.int .i64 n, .slice s.a s.len s.cap], .int .i64 k] w fun v w' => v = .bool (decide (0 ≤ k ∧ k < layN n g)) ∧ Sat R Hs w' := by
  apply call237
  refine new_rule hw fun p w hw => ?_
  have hw : Sat R (pts p (layC n s) :: Hs) w := hw
  refine Br.d (fun h => ?_) (fun h => ⟨by rw [decide_eq_false (by omega)], hw.drop⟩)
  refine ⟨n, s, At.own (eqS hw) (by exact ⟨rfl, rfl, trivial⟩), ?_⟩
  refine (count_spec hs hw).use ?_
  rintro _ w ⟨rfl, hw⟩
  refine ⟨_, rfl, ?_, hw.drop⟩
  congr 1
  rw [decide_eq_decide]; omega
end Go.Proofs.YtfgbbckfikiomaaGreatDoor
/- The names of seats, plain: digits of the row, a letter. No program in sight. Condition: none. -/
namespace Go.Proofs.YtfgbbckfikiomaaGreatDoor
set_option linter.unusedVariables false
open Go Go.VC
def letterL : List Int := [65, 66, 67, 68, 69, 70, 71, 72, 74, 75]
def letterI (c : Nat) : Int := letterL.getD c 0
def rowL (r : Nat) : List Int := (if 10 ≤ r then [48 + ((r / 10 : Nat) : Int)] else []) ++ [48 + ((r % 10 : Nat) : Int)]
def labelL (r c : Nat) : List Int := rowL r ++ [letterI c]
def labS (w k : Int) : ByteArray := VC.strOf (labelL (k / w + 1).toNat (k % w).toNat)
def letterB : ByteArray := ByteArray.mk #[65, 66, 67, 68, 69, 70, 71, 72, 74, 75]
theorem letter_ext : ∀ c : Fin 10, letterB.extract c.1 (c.1 + 1) = VC.strOf [letterI c.1] := by decide +kernel
theorem letter_at : ∀ c : Fin 10, ∃ b : UInt8, letterB[c.1]? = some b ∧ (b.toNat : Int) = letterI c.1 := by decide +kernel
theorem label_app : ∀ r : Fin 61, ∀ c : Fin 10, VC.strOf (rowL r.1) ++ VC.strOf [letterI c.1] = VC.strOf (labelL r.1 c.1) := by decide +kernel
def colI (c : Int) : Int := match letterL.findIdx? (· == c) with | some i => i | none => -1
def isDig (c : Int) : Bool := decide (48 ≤ c ∧ c ≤ 57)
def prs : List Int → Bool → Int → Int → Option (Int × Int)
  | [], _, row, last => some (row, last)
  | c :: l, first, row, last =>
    if 0 ≤ last ∨ (first = true ∧ c = 48) ∨ row > 60 then none
    else if isDig c then prs l false (10 * row + (c - 48)) last
    else if colI c < 0 then none
    else prs l false row (colI c)
def findP (n w : Int) (lab : ByteArray) : Int × Int :=
  match prs (bytesL lab) true 0 (-1) with
  | none => (0, 2)
  | some (row, last) => if row < 1 ∨ row > n ∨ last < 0 ∨ last ≥ w then (0, 2) else ((row - 1) * w + last, 0)
theorem prs_label : ∀ r : Fin 60, ∀ c : Fin 10, prs (labelL (r.1 + 1) c.1) true 0 (-1) = some ((r.1 : Int) + 1, (c.1 : Int)) := by decide +kernel
def DigI (l : List Int) (row : Int) : Prop :=
  (l = [] ∧ row = 0) ∨ (∃ d : Int, 1 ≤ d ∧ d ≤ 9 ∧ l = [48 + d] ∧ row = d) ∨ (∃ d e : Int, 1 ≤ d ∧ d ≤ 9 ∧ 0 ≤ e ∧ e ≤ 9 ∧ l = [48 + d, 48 + e] ∧ row = 10 * d + e) ∨ 100 ≤ row
def PrsI (l : List Int) (row last : Int) : Prop := (last = -1 ∧ DigI l row) ∨ (0 ≤ last ∧ last < 10 ∧ ∃ l', l = l' ++ [letterI last.toNat] ∧ DigI l' row)
theorem colI_out {c : Int} (h : ¬ colI c < 0) : 0 ≤ colI c ∧ colI c < 10 ∧ letterI (colI c).toNat = c := by
  unfold colI at *
  split at h
  · rename_i i hi
    obtain ⟨hlt, hp, _⟩ := List.findIdx?_eq_some_iff_getElem.1 hi
    have hlt' : i < 10 := hlt
    refine ⟨by omega, by omega, ?_⟩
    unfold letterI
    rw [Int.toNat_natCast, List.getD_eq_getElem?_getD, List.getElem?_eq_getElem hlt]
    simpa using hp
  · omega
theorem prs_inv : ∀ (l a : List Int) (first : Bool) (row last row' last' : Int), (first = true ↔ a = []) → PrsI a row last → prs l first row last = some (row', last') → PrsI (a ++ l) row' last'
  | [], a, _, row, last, row', last', _, h, e => by
    simp only [prs, Option.some.injEq, Prod.mk.injEq] at e
    rw [List.append_nil, ← e.1, ← e.2]; exact h
  | c :: l, a, first, row, last, row', last', hf, h, e => by
    have hne : (false = true ↔ a ++ [c] = []) := by simp
    unfold prs at e
    split at e
    · cases e
    rename_i h1
    have hl : last < 0 := by omega
    have hd : DigI a row := by
      rcases h with h | h
      · exact h.2
      · omega
    split at e
    · rename_i h2
      have h2 := of_decide_eq_true h2
      have := prs_inv l (a ++ [c]) false _ last row' last' hne (.inl ⟨?_, ?_⟩) e
      · rw [List.append_assoc] at this; exact this
      · rcases h with h | h
        · exact h.1
        · omega
      · rcases hd with ⟨rfl, rfl⟩ | ⟨d, hd1, hd2, rfl, rfl⟩ | ⟨d, e2, hd1, hd2, he1, he2, rfl, rfl⟩ | hbig
        · have : first = true := hf.2 rfl
          refine .inr (.inl ⟨c - 48, ?_, by omega, ?_, by omega⟩)
          · have : c ≠ 48 := fun hc => h1 (.inr (.inl ⟨this, hc⟩))
            omega
          · rw [show (48 : Int) + (c - 48) = c by omega]; rfl
        · refine .inr (.inr (.inl ⟨row, c - 48, hd1, hd2, by omega, by omega, ?_, by omega⟩))
          rw [show (48 : Int) + (c - 48) = c by omega]; rfl
        · exact .inr (.inr (.inr (by omega)))
        · omega
    · split at e
      · cases e
      rename_i h2 h3
      obtain ⟨c0, c1, c2⟩ := colI_out h3
      have := prs_inv l (a ++ [c]) false row (colI c) row' last' hne (.inr ⟨c0, c1, a, by rw [c2], hd⟩) e
      rw [List.append_assoc] at this; exact this
theorem digI_row {l : List Int} {row : Int} (h : DigI l row) (h1 : 1 ≤ row) (h2 : row ≤ 60) : l = rowL row.toNat := by
  rcases h with ⟨rfl, rfl⟩ | ⟨d, hd1, hd2, rfl, rfl⟩ | ⟨d, e, hd1, hd2, he1, he2, rfl, rfl⟩ | hbig
  · omega
  · unfold rowL
    rw [if_neg (by omega)]
    simp only [List.nil_append, List.cons.injEq, and_true]
    omega
  · unfold rowL
    rw [if_pos (by omega)]
    simp only [List.cons_append, List.nil_append, List.cons.injEq, and_true]
    constructor <;> omega
  · omega
theorem prs_out {l : List Int} {row last : Int} (h : prs l true 0 (-1) = some (row, last)) (h1 : 1 ≤ row) (h2 : row ≤ 60) (h3 : 0 ≤ last) : last < 10 ∧ l = labelL row.toNat last.toNat := by
  have := prs_inv l [] true 0 (-1) row last (by simp) (.inl ⟨rfl, .inl ⟨rfl, rfl⟩⟩) h
  rw [List.nil_append] at this
  rcases this with ⟨h, _⟩ | ⟨_, h4, l', rfl, hd⟩
  · omega
  · exact ⟨h4, by unfold labelL; rw [digI_row hd h1 h2]⟩
theorem labelL_bytes : ∀ r : Fin 60, ∀ c : Fin 10, ∀ n ∈ labelL (r.1 + 1) c.1, 0 ≤ n ∧ n < 256 := by decide +kernel
theorem find_iff {n w k : Int} {lab : ByteArray} (hn : n ≤ 60) (hw : 1 ≤ w) (hw2 : w ≤ 10) : (findP n w lab = (k, 0)) ↔ (0 ≤ k ∧ k < n * w ∧ labS w k = lab) := by
  constructor
  · intro h
    unfold findP at h
    split at h
    · simp at h
    rename_i row last hp
    split at h
    · simp at h
    rename_i hr
    simp only [Prod.mk.injEq, and_true] at h
    obtain ⟨h4, h5⟩ := prs_out hp (by omega) (by omega) (by omega)
    have hm : (row - 1) * w ≤ (n - 1) * w := Int.mul_le_mul_of_nonneg_right (by omega) (by omega)
    have hm0 : 0 ≤ (row - 1) * w := Int.mul_nonneg (by omega) (by omega)
    have hm2 : (n - 1) * w = n * w - w := by rw [Int.sub_mul]; omega
    refine ⟨by omega, by omega, ?_⟩
    have e1 : k / w = row - 1 := by
      rw [← h, Int.mul_comm, Int.add_comm, Int.add_mul_ediv_left _ _ (by omega), Int.ediv_eq_zero_of_lt (by omega) (by omega)]; omega
    have e2 : k % w = last := by
      rw [← h, Int.mul_comm, Int.add_comm, Int.add_mul_emod_self_left, Int.emod_eq_of_lt (by omega) (by omega)]
    unfold labS
    rw [e1, e2, show row - 1 + 1 = row by omega, ← h5, strOf_bytesL]
  · rintro ⟨h0, h1, rfl⟩
    have e0 : 0 ≤ k / w := Int.ediv_nonneg h0 (by omega)
    have e1 : k / w < n := Int.ediv_lt_of_lt_mul (by omega) h1
    have e2 : 0 ≤ k % w := Int.emod_nonneg _ (by omega)
    have e3 : k % w < w := Int.emod_lt_of_pos _ (by omega)
    have e4 := Int.mul_ediv_add_emod k w
    generalize hq : k / w = q at *
    generalize hm : k % w = m at *
    obtain ⟨a, rfl⟩ := Int.eq_ofNat_of_zero_le e0
    obtain ⟨b, rfl⟩ := Int.eq_ofNat_of_zero_le e2
    unfold findP labS
    rw [hq, hm, show ((a : Int) + 1).toNat = a + 1 by omega, Int.toNat_natCast]
    have hb := labelL_bytes ⟨a, by omega⟩ ⟨b, by omega⟩
    have hp := prs_label ⟨a, by omega⟩ ⟨b, by omega⟩
    rw [bytesL_strOf hb, hp]
    dsimp only
    rw [if_neg (by omega)]
    simp only [Prod.mk.injEq, and_true]
    rw [← e4, show (a : Int) + 1 - 1 = a by omega, Int.mul_comm]
theorem decode_hi (s : ByteArray) (i : Nat) (h : ¬ (s.get! (i + 0)).toNat < 128) : 128 ≤ (Utf8.decode s i).1 := by
  unfold Utf8.decode
  dsimp only
  rw [if_neg h]
  split
  · split
    · assumption
    · decide
  · split
    · split
      · rename_i h; simp only [Bool.and_eq_true, decide_eq_true_iff] at h; have := h.1; dsimp only; omega
      · decide
    · split
      · split
        · rename_i h; simp only [Bool.and_eq_true, decide_eq_true_iff] at h; have := h.1; dsimp only; omega
        · decide
      · decide
end Go.Proofs.YtfgbbckfikiomaaGreatDoor
/- The formulas of functions of this seat's translation, printed by a program of mine off the translation; each is proved equal to 'fnF' of the function's body, so it is enough for the call. No condition. -/
namespace Go.Proofs.YtfgbbckfikiomaaGreatDoor
open Go Go.VC
set_option linter.unusedVariables false
set_option maxRecDepth 10000
def B278 (i0 : Int) (K : Value → World → Prop) (w : World) : Prop :=
  Calls Tryz.prog 284 #[.int .i64 i0, .int .i64 10] w fun e w_1 =>
  ∃ t4 : ByteArray, (e = .returned (.string t4)) ∧
  K (.string t4) w_1
def sk278 : Sk := .leaf
theorem ok278 : fnOk Tryz.prog Tryz.f278.ntmps Tryz.f278 sk278 = true := by kernel_rfl
theorem eq278 (i0 : Int) (K : Value → World → Prop) (w : World) : fnF Tryz.prog cl Tryz.f278 sk278 [.int .i64 i0] K w = B278 i0 K w := by kernel_rfl
theorem call278 (i0 : Int) (K : Value → World → Prop) (w : World) (h : B278 i0 K w) : Gets Tryz.prog 278 #[.int .i64 i0] w K :=
  calls_of (sk := sk278) cl_ok mixed Tryz.func278 ok278 (args := [.int .i64 i0]) (Nat.le_of_ble_eq_true (by kernel_rfl)) (by rw [eq278]; exact h)
def B284 (i0 : Int) (base1 : Int) (K : Value → World → Prop) (w : World) : Prop :=
  Br (base1 == 10)
   (∃ (J : World → Prop), (Br (decide (0 ≤ i0))
       (Br (decide (i0 < 100))
         (Calls Tryz.prog 288 #[.int .i64 i0] w fun e w_1 =>
          ∃ t19 : ByteArray, (e = .returned (.string t19)) ∧
          K (.string t19) w_1)
         (J  w))
       (J  w)) ∧
    ∀ (z : Env)  (w_2 : World), J  w_2 →
    New (.cells #[.int .u8 0, .int .u8 0, .int .u8 0, .int .u8 0, .int .u8 0, .int .u8 0, .int .u8 0, .int .u8 0, .int .u8 0, .int .u8 0, .int .u8 0, .int .u8 0, .int .u8 0, .int .u8 0, .int .u8 0, .int .u8 0, .int .u8 0, .int .u8 0, .int .u8 0, .int .u8 0, .int .u8 0, .int .u8 0, .int .u8 0, .int .u8 0] 295 (0, 0)) (fun b_a5 w_3 =>
    ∃ (J_1 : Int → World → Prop), (Br (decide (i0 < 0))
       (J_1 (IntKind.u64.wrap (0 - IntKind.u64.wrap i0)) w_3)
       (J_1 (IntKind.u64.wrap i0) w_3)) ∧
    ∀ (z_1 : Env) (u6 : Int) (w_4 : World), J_1 u6 w_4 →
    Calls Tryz.prog 289 #[.int .u64 u6] w_4 fun e_1 w_5 =>
    ∃ t27 : Int, (e_1 = .returned (.int .i64 t27)) ∧
    ∃ t30 : Addr, (some (Addr.mk b_a5 0 none) = some t30) ∧
    ((0 : Int) ≤ IntKind.i64.wrap (1 + t27)) ∧
    ((IntKind.i64.wrap (1 + t27) : Int) ≤ 24) ∧
    ((0 : Int) ≤ 1) ∧
    ((1 : Int) ≤ (↑(IntKind.i64.wrap (1 + t27)).toNat : Int)) ∧
    Calls Tryz.prog 290 #[.slice (cutA (some t30) (Int.toNat 1) 24 1) ((IntKind.i64.wrap (1 + t27)).toNat - Int.toNat 1) 23, .int .u64 u6] w_5 fun e_2 w_6 =>
    (e_2 = .returned (.tuple #[])) ∧
    Br (decide (i0 < 0))
     (∃ w_7 : World, ((Instr.storeAt 5 (.pointer ((some (Addr.add ⟨b_a5, 0, none⟩ 0)))) (.int .u8 45)).run Tryz.prog w_6 = .ok () w_7) ∧
      ∃ t38 : Addr, (some (Addr.mk b_a5 0 none) = some t38) ∧
      ((0 : Int) ≤ IntKind.i64.wrap (1 + t27)) ∧
      ((IntKind.i64.wrap (1 + t27) : Int) ≤ 24) ∧
      ∃ t39 : ByteArray, (∀ w', (fun w' => w' = w_7) w' → ((convert 42 9 (.slice ((some (t38))) ((IntKind.i64.wrap (1 + t27)).toNat) 24))).run Tryz.prog w' = .ok (.string t39) w') ∧
      K (.string t39) w_7)
     (∃ t42 : Addr, (some (Addr.mk b_a5 0 none) = some t42) ∧
      ((0 : Int) ≤ IntKind.i64.wrap (1 + t27)) ∧
      ((IntKind.i64.wrap (1 + t27) : Int) ≤ 24) ∧
      ((0 : Int) ≤ 1) ∧
      ((1 : Int) ≤ (↑(IntKind.i64.wrap (1 + t27)).toNat : Int)) ∧
      ∃ t43 : ByteArray, (∀ w', (fun w' => w' = w_6) w' → ((convert 42 9 (.slice (cutA (some t42) (Int.toNat 1) 24 1) ((IntKind.i64.wrap (1 + t27)).toNat - Int.toNat 1) 23))).run Tryz.prog w' = .ok (.string t43) w') ∧
      K (.string t43) w_6)) w_2)
   (Calls Tryz.prog 291 #[.slice none 0 0, .int .u64 (IntKind.u64.wrap i0), .int .i64 base1, .bool (decide (i0 < 0)), .bool false] w fun e_3 w_8 =>
    ∃ t50 : Sl, ∃ t50_1 : ByteArray, (e_3 = .returned (.tuple #[.slice t50.a t50.len t50.cap, .string t50_1])) ∧
    K (.string t50_1) w_8)
def sk284 : Sk := (.seq .leaf (.seq (.seq .leaf (.cond (.cut [] [] [4, 12, 13, 14, 15, 16, 17, 18, 19] .leaf (.seq .leaf (.seq .leaf (.cut [6] [(.int .u64)] [6, 22, 23, 24, 25] .leaf .leaf)))) .leaf)) .leaf))
theorem ok284 : fnOk Tryz.prog Tryz.f284.ntmps Tryz.f284 sk284 = true := by kernel_rfl
theorem eq284 (i0 : Int) (base1 : Int) (K : Value → World → Prop) (w : World) : fnF Tryz.prog cl Tryz.f284 sk284 [.int .i64 i0, .int .i64 base1] K w = B284 i0 base1 K w := by kernel_rfl
theorem call284 (i0 : Int) (base1 : Int) (K : Value → World → Prop) (w : World) (h : B284 i0 base1 K w) : Gets Tryz.prog 284 #[.int .i64 i0, .int .i64 base1] w K :=
  calls_of (sk := sk284) cl_ok mixed Tryz.func284 ok284 (args := [.int .i64 i0, .int .i64 base1]) (Nat.le_of_ble_eq_true (by kernel_rfl)) (by rw [eq284]; exact h)
def B288 (i0 : Int) (K : Value → World → Prop) (w : World) : Prop :=
  Br (decide (i0 < 10))
   (((0 : Int) ≤ IntKind.i64.wrap (i0 + 1)) ∧
    ((IntKind.i64.wrap (i0 + 1) : Int) ≤ 36) ∧
    ((0 : Int) ≤ i0) ∧
    ((i0 : Int) ≤ (↑(IntKind.i64.wrap (i0 + 1)).toNat : Int)) ∧
    K (.string ((ByteArray.mk #[48, 49, 50, 51, 52, 53, 54, 55, 56, 57, 97, 98, 99, 100, 101, 102, 103, 104, 105, 106, 107, 108, 109, 110, 111, 112, 113, 114, 115, 116, 117, 118, 119, 120, 121, 122]).extract i0.toNat (IntKind.i64.wrap (i0 + 1)).toNat)) w)
   (((0 : Int) ≤ IntKind.i64.wrap (IntKind.i64.wrap (i0 * 2) + 2)) ∧
    ((IntKind.i64.wrap (IntKind.i64.wrap (i0 * 2) + 2) : Int) ≤ 200) ∧
    ((0 : Int) ≤ IntKind.i64.wrap (i0 * 2)) ∧
    ((IntKind.i64.wrap (i0 * 2) : Int) ≤ (↑(IntKind.i64.wrap (IntKind.i64.wrap (i0 * 2) + 2)).toNat : Int)) ∧
    K (.string ((ByteArray.mk (([48, 48, 48, 49, 48, 50, 48, 51, 48, 52, 48, 53, 48, 54, 48, 55, 48, 56, 48, 57, 49, 48, 49, 49, 49, 50, 49, 51, 49, 52, 49, 53, 49, 54, 49, 55, 49, 56, 49, 57, 50, 48, 50, 49, 50, 50, 50, 51, 50, 52].append [50, 53, 50, 54, 50, 55, 50, 56, 50, 57, 51, 48, 51, 49, 51, 50, 51, 51, 51, 52, 51, 53, 51, 54, 51, 55, 51, 56, 51, 57, 52, 48, 52, 49, 52, 50, 52, 51, 52, 52, 52, 53, 52, 54, 52, 55, 52, 56, 52, 57]).append ([53, 48, 53, 49, 53, 50, 53, 51, 53, 52, 53, 53, 53, 54, 53, 55, 53, 56, 53, 57, 54, 48, 54, 49, 54, 50, 54, 51, 54, 52, 54, 53, 54, 54, 54, 55, 54, 56, 54, 57, 55, 48, 55, 49, 55, 50, 55, 51, 55, 52].append [55, 53, 55, 54, 55, 55, 55, 56, 55, 57, 56, 48, 56, 49, 56, 50, 56, 51, 56, 52, 56, 53, 56, 54, 56, 55, 56, 56, 56, 57, 57, 48, 57, 49, 57, 50, 57, 51, 57, 52, 57, 53, 57, 54, 57, 55, 57, 56, 57, 57])).toArray).extract (IntKind.i64.wrap (i0 * 2)).toNat (IntKind.i64.wrap (IntKind.i64.wrap (i0 * 2) + 2)).toNat)) w)
def sk288 : Sk := .leaf
theorem ok288 : fnOk Tryz.prog Tryz.f288.ntmps Tryz.f288 sk288 = true := by kernel_rfl
theorem eq288 (i0 : Int) (K : Value → World → Prop) (w : World) : fnF Tryz.prog cl Tryz.f288 sk288 [.int .i64 i0] K w = B288 i0 K w := by kernel_rfl
theorem call288 (i0 : Int) (K : Value → World → Prop) (w : World) (h : B288 i0 K w) : Gets Tryz.prog 288 #[.int .i64 i0] w K :=
  calls_of (sk := sk288) cl_ok mixed Tryz.func288 ok288 (args := [.int .i64 i0]) (Nat.le_of_ble_eq_true (by kernel_rfl)) (by rw [eq288]; exact h)
end Go.Proofs.YtfgbbckfikiomaaGreatDoor
/- The names of seats: packages seat, strconv and reference 13. Condition: none. -/
namespace Go.Proofs.YtfgbbckfikiomaaGreatDoor
set_option linter.unusedVariables false
open Go Go.VC
variable {R : Cx} {Hs Rest : List HP} {w : World}
def smallD : ByteArray := ByteArray.mk #[48, 49, 50, 51, 52, 53, 54, 55, 56, 57, 97, 98, 99, 100, 101, 102, 103, 104, 105, 106, 107, 108, 109, 110, 111, 112, 113, 114, 115, 116, 117, 118, 119, 120, 121, 122]
def smallS : ByteArray := ByteArray.mk (([48, 48, 48, 49, 48, 50, 48, 51, 48, 52, 48, 53, 48, 54, 48, 55, 48, 56, 48, 57, 49, 48, 49, 49, 49, 50, 49, 51, 49, 52, 49, 53, 49, 54, 49, 55, 49, 56, 49, 57, 50, 48, 50, 49, 50, 50, 50, 51, 50, 52].append [50, 53, 50, 54, 50, 55, 50, 56, 50, 57, 51, 48, 51, 49, 51, 50, 51, 51, 51, 52, 51, 53, 51, 54, 51, 55, 51, 56, 51, 57, 52, 48, 52, 49, 52, 50, 52, 51, 52, 52, 52, 53, 52, 54, 52, 55, 52, 56, 52, 57]).append ([53, 48, 53, 49, 53, 50, 53, 51, 53, 52, 53, 53, 53, 54, 53, 55, 53, 56, 53, 57, 54, 48, 54, 49, 54, 50, 54, 51, 54, 52, 54, 53, 54, 54, 54, 55, 54, 56, 54, 57, 55, 48, 55, 49, 55, 50, 55, 51, 55, 52].append [55, 53, 55, 54, 55, 55, 55, 56, 55, 57, 56, 48, 56, 49, 56, 50, 56, 51, 56, 52, 56, 53, 56, 54, 56, 55, 56, 56, 56, 57, 57, 48, 57, 49, 57, 50, 57, 51, 57, 52, 57, 53, 57, 54, 57, 55, 57, 56, 57, 57])).toArray
theorem smallD_row : ∀ r : Fin 10, smallD.extract r.1 (r.1 + 1) = VC.strOf (rowL r.1) := by decide +kernel
theorem smallS_row : ∀ r : Fin 100, 10 ≤ r.1 → smallS.extract (r.1 * 2) (r.1 * 2 + 2) = VC.strOf (rowL r.1) := by decide +kernel
theorem itoa_spec {n : Nat} (h : n < 100) (hw : Sat R Hs w) : Gets Tryz.prog 266 #[.int .i64 n] w fun v w' => v = .string (VC.strOf (rowL n)) ∧ Sat R Hs w' := by
  apply call266
  have h3 : Gets Tryz.prog 288 #[.int .i64 n] w fun v w' => v = .string (VC.strOf (rowL n)) ∧ Sat R Hs w' := by
    apply call288
    have w1 : IntKind.i64.wrap ((n : Int) + 1) = ((n + 1 : Nat) : Int) := wrap64 (by omega) (by omega)
    have w2 : IntKind.i64.wrap ((n : Int) * 2) = ((n * 2 : Nat) : Int) := wrap64 (by omega) (by omega)
    have w3 : IntKind.i64.wrap (((n * 2 : Nat) : Int) + 2) = ((n * 2 + 2 : Nat) : Int) := wrap64 (by omega) (by omega)
    rw [B288, w2, w3, w1]
    refine Br.d (fun h => ?_) (fun h => ?_)
    · refine ⟨by omega, by omega, by omega, by omega, ?_, hw⟩
      exact congrArg Value.string (smallD_row ⟨n, by omega⟩)
    · refine ⟨by omega, by omega, by omega, by omega, ?_, hw⟩
      exact congrArg Value.string (smallS_row ⟨n, by omega⟩ (by dsimp only; omega))
  have h2 : Gets Tryz.prog 284 #[.int .i64 n, .int .i64 10] w fun v w' => v = .string (VC.strOf (rowL n)) ∧ Sat R Hs w' := by
    apply call284
    refine Br.t rfl ⟨fun _ => False, Br.t (decide_eq_true (by omega)) (Br.t (decide_eq_true (by omega)) ?_), fun _ _ h => h.elim⟩
    refine h3.use ?_
    rintro _ w ⟨rfl, hw⟩
    exact ⟨_, rfl, rfl, hw⟩
  have h1 : Gets Tryz.prog 278 #[.int .i64 n] w fun v w' => v = .string (VC.strOf (rowL n)) ∧ Sat R Hs w' := by
    apply call278
    refine h2.use ?_
    rintro _ w ⟨rfl, hw⟩
    exact ⟨_, rfl, rfl, hw⟩
  refine h1.use ?_
  rintro _ w ⟨rfl, hw⟩
  exact ⟨_, rfl, rfl, hw⟩
def labT (n : Int) (g : List Int) (k : Int) : ByteArray × Int := if 0 ≤ k ∧ k < layN n g then (labS g.sum k, 0) else (⟨#[]⟩, 1)
theorem labT_in {n : Int} {g : List Int} {k : Int} (h : 0 ≤ k ∧ k < layN n g) : ∃ a b q m : Nat, k = a ∧ g.sum = b ∧ 1 ≤ b ∧ b ≤ 10 ∧ q < 60 ∧ m < b ∧ labS g.sum k = VC.strOf (labelL (q + 1) m) ∧ (∀ x ∈ g, 1 ≤ x ∧ x ≤ 10) ∧ g.length ≤ 4 ∧ ((a : Int)).tmod (b : Int) = (m : Int) ∧ ((a : Int)).tdiv (b : Int) = (q : Int) := by
  have hok : layOk n g = true := by
    by_cases hok : layOk n g = true
    · exact hok
    · unfold layN at h; rw [if_neg hok] at h; omega
  obtain ⟨h1, h2, h3⟩ := layOk_iff.1 hok
  have hp := sum_pos h2 (by omega)
  rw [layN_ok hok] at h
  obtain ⟨a, rfl⟩ := Int.eq_ofNat_of_zero_le h.1
  obtain ⟨b, hb⟩ := Int.eq_ofNat_of_zero_le (show 0 ≤ g.sum by omega)
  rw [hb] at h hp h3
  have hd : (a : Int) / (b : Int) < n := Int.ediv_lt_of_lt_mul (by omega) h.2
  refine ⟨a, b, a / b, a % b, rfl, hb, by omega, by omega, ?_, Nat.mod_lt _ (by omega), ?_, h2, by omega, rfl, rfl⟩
  · rw [← Int.natCast_ediv] at hd; omega
  · unfold labS
    rw [hb, ← Int.natCast_ediv, ← Int.natCast_emod]
    rfl
theorem label_spec {n k : Int} {s : Sl} {g : List Int} (hs : RoI R s g) (hw : Sat R Hs w) :
    Gets Tryz.prog 240 #[.agg #[.int .i64 n, .slice s.a s.len s.cap], .int .i64 k] w fun v w' => v = .tuple #[.string (labT n g k).1, .int .i64 (labT n g k).2] ∧ Sat R Hs w' := by
  apply call240
  refine new_rule hw fun p w hw => ?_
  have hw : Sat R (pts p (layC n s) :: Hs) w := hw
  refine ⟨n, s, At.own (eqS hw) (by exact ⟨rfl, rfl, trivial⟩), ?_⟩
  refine (shas_spec hs hw).use ?_
  rintro _ w ⟨rfl, hw⟩
  refine ⟨_, rfl, Br.nd (fun h => ⟨?_, hw.drop⟩) (fun h => ?_)⟩
  · unfold labT; rw [if_neg h]
  have e : labT n g k = (labS g.sum k, 0) := by unfold labT; rw [if_pos h]
  rw [e]
  obtain ⟨a, b, q, m, rfl, hb, b1, b2, a1, a2, hl, hg, hg2, e1, e2⟩ := labT_in h
  rw [hl]
  refine ⟨n, s, At.own (eqS hw) (by exact ⟨rfl, rfl, trivial⟩), ?_⟩
  refine (across_spec hs (fun x hx => by have := hg x hx; omega) hg2 hw).use ?_
  rintro _ w ⟨rfl, hw⟩
  rw [hb]
  refine ⟨_, rfl, ?_⟩
  refine drw_rule hw fun w hw => ?_
  have w1 : IntKind.i64.wrap ((m : Int) + 1) = ((m + 1 : Nat) : Int) := wrap64 (by omega) (by omega)
  have w2 : IntKind.i64.wrap (q : Int) = (q : Int) := wrap64 (by omega) (by omega)
  have w3 : IntKind.i64.wrap ((q : Int) + 1) = ((q + 1 : Nat) : Int) := wrap64 (by omega) (by omega)
  rw [e1, e2, w1, w2, w3]
  refine Nz.mk (by omega) (Nz.mk (by omega) (Nz.mk (by omega) ⟨by omega, by omega, by omega, by omega, ?_⟩))
  refine (itoa_spec (by omega) hw).use ?_
  rintro _ w ⟨rfl, hw⟩
  have eL : (ByteArray.mk #[65, 66, 67, 68, 69, 70, 71, 72, 74, 75]).extract ((m : Int)).toNat (((m + 1 : Nat) : Int)).toNat = VC.strOf [letterI (m)] := letter_ext ⟨m, by omega⟩
  rw [eL]
  refine ⟨_, rfl, ?_, ?_, hw.drop⟩
  · have : (VC.strOf (rowL (q + 1))).size ≤ 2 := by
      show ((rowL (q + 1)).map _).toArray.size ≤ 2
      rw [List.size_toArray, List.length_map]; unfold rowL; split <;> simp
    have h1 : (VC.strOf [letterI (m)]).size = 1 := rfl
    omega
  · rw [label_app ⟨q + 1, by omega⟩ ⟨m, by omega⟩]
theorem colI_at {c : Int} {j : Nat} (hj : j < 10) (hn : ∀ i, i < j → letterI i ≠ c) (h : letterI j = c) : colI c = j := by
  have hl : letterL.findIdx? (· == c) = some j := by
    rw [List.findIdx?_eq_some_iff_getElem]
    refine ⟨hj, ?_, fun i hi => ?_⟩
    · unfold letterI at h
      rw [List.getD_eq_getElem?_getD, List.getElem?_eq_getElem (show j < letterL.length from hj)] at h
      exact beq_iff_eq.2 h
    · have := hn i hi
      unfold letterI at this
      rw [List.getD_eq_getElem?_getD, List.getElem?_eq_getElem (show i < letterL.length from by show i < 10; omega)] at this
      simpa using this
  unfold colI; rw [hl]
theorem colI_no {c : Int} (hn : ∀ i, i < 10 → letterI i ≠ c) : colI c = -1 := by
  unfold colI
  split
  · rename_i i hi
    obtain ⟨hlt, hp, _⟩ := List.findIdx?_eq_some_iff_getElem.1 hi
    have := hn i hlt
    unfold letterI at this
    rw [List.getD_eq_getElem?_getD, List.getElem?_eq_getElem hlt] at this
    exact absurd (by simpa using hp) this
  · rfl
theorem column_spec {c : Int} (hw : Sat R Hs w) : Gets Tryz.prog 262 #[.int .i32 c] w fun v w' => v = .int .i64 (colI c) ∧ Sat R Hs w' := by
  apply call262
  refine ⟨fun i w => ∃ j : Nat, i = j ∧ j ≤ 10 ∧ (∀ k, k < j → letterI k ≠ c) ∧ Sat R Hs w, fun i _ => 10 - i.toNat, ⟨0, rfl, by omega, fun k h => by omega, hw⟩, ?_⟩
  clear hw
  rintro _ _ w ⟨j, rfl, hj, hn, hw⟩
  refine Br.d (fun h => ?_) (fun h => ?_)
  · obtain ⟨b, hb, hv⟩ := letter_at ⟨j, by omega⟩
    refine ⟨b, by omega, hb, ?_⟩
    have hbd := b.toNat_lt
    rw [show IntKind.i32.wrap (b.toNat : Int) = (b.toNat : Int) by rw [IntKind.wrap_i32]; omega]
    refine Br.e (fun h2 => ⟨?_, hw⟩) (fun h2 => ?_)
    · rw [colI_at (by omega) hn (hv.symm.trans h2)]
    · rw [wrap64 (by omega) (by omega)]
      refine ⟨⟨j + 1, by omega, by omega, fun k hk => ?_, hw⟩, by dsimp only; omega⟩
      by_cases hkj : k = j
      · subst hkj; rw [← hv]; exact h2
      · exact hn k (by omega)
  · exact ⟨by rw [colI_no (fun i hi => hn i (by omega))], hw⟩
def findT (n : Int) (g : List Int) (lab : ByteArray) : Int × Int := if layOk n g then findP n g.sum lab else (0, 1)
theorem prs_step (c : Int) (l : List Int) (first : Bool) (row last : Int) : prs (c :: l) first row last = if 0 ≤ last ∨ (first = true ∧ c = 48) ∨ row > 60 then none
    else if isDig c then prs l false (10 * row + (c - 48)) last else if colI c < 0 then none else prs l false row (colI c) := rfl
theorem prs_cons {lab : ByteArray} {pos : Nat} (h : pos < lab.size) : (bytesL lab).drop pos = ((lab[pos]'h).toNat : Int) :: (bytesL lab).drop (pos + 1) := by
  have hl : pos < (bytesL lab).length := by rw [bytesL_len]; exact h
  rw [List.drop_eq_getElem_cons hl]
  congr 1
  simp [bytesL]
  rfl
theorem letterI_le : ∀ i : Fin 10, letterI i.1 ≤ 75 := by decide +kernel
theorem colI_hi {c : Int} (h : 128 ≤ c) : colI c < 0 := by
  by_cases h2 : colI c < 0
  · exact h2
  · obtain ⟨h0, h1, h3⟩ := colI_out h2
    have := letterI_le ⟨(colI c).toNat, by omega⟩
    dsimp only at this
    omega
theorem find_spec {n : Int} {s : Sl} {g : List Int} {lab : ByteArray} (hs : RoI R s g) (hsz : lab.size ≤ 9223372036854775807) (hw : Sat R Hs w) :
    Gets Tryz.prog 234 #[.agg #[.int .i64 n, .slice s.a s.len s.cap], .string lab] w fun v w' => v = .tuple #[.int .i64 (findT n g lab).1, .int .i64 (findT n g lab).2] ∧ Sat R Hs w' := by
  apply call234
  refine new_rule hw fun p w hw => ?_
  have hw : Sat R (pts p (layC n s) :: Hs) w := hw
  refine ⟨n, s, At.own (eqS hw) (by exact ⟨rfl, rfl, trivial⟩), ?_⟩
  refine (right_spec hs hw).use ?_
  rintro _ w ⟨rfl, hw⟩
  refine ⟨_, rfl, Br.nb (fun h => ⟨?_, hw.drop⟩) (fun hok => ?_)⟩
  · unfold findT; rw [h]; rfl
  have e : findT n g lab = findP n g.sum lab := by unfold findT; rw [if_pos hok]
  rw [e]
  obtain ⟨l1, l2, l3⟩ := layOk_iff.1 hok
  have hp := sum_pos l2 (by omega)
  refine new_rule hw fun b w hw => ?_
  have no : prs (bytesL lab) true 0 (-1) = none → findP n g.sum lab = (0, 2) := fun h => by unfold findP; rw [h]
  refine ⟨fun row last w => ∃ pos : Nat, pos ≤ lab.size ∧ prs ((bytesL lab).drop pos) (decide (pos = 0)) row last = prs (bytesL lab) true 0 (-1) ∧ 0 ≤ row ∧ row ≤ 700 ∧ -1 ≤ last ∧ last < 10 ∧ Sat R (pts b (.stringIter lab pos) :: pts p (layC n s) :: Hs) w,
    fun _ _ w => lab.size - w.iterPos b, ⟨0, by omega, rfl, by omega, by omega, by omega, by omega, hw⟩, ?_⟩
  clear hw
  rintro _ row last w ⟨pos, hpos, hprs, r0, r1, t0, t1, hw⟩
  have hpw : w.iterPos b = pos := by have := hw.at; simp [World.iterPos, this]
  refine ⟨b, lab, pos, rfl, hw.at, fun hlt => ?_, fun hlt => ?_⟩
  · rw [prs_cons hlt] at hprs
    have hbyte := (lab[pos]'hlt).toNat_lt
    have hw2 := hw.setPts (.stringIter lab (pos + (Utf8.decode lab pos).2))
    generalize hw' : w.setBlock b (.stringIter lab (pos + (Utf8.decode lab pos).2)) = w2 at hw2
    have : ({ w with heap := w.heap.setIfInBounds b (.stringIter lab (pos + (Utf8.decode lab pos).2)) } : World) = w2 := hw'
    rw [this]
    have hc : ((lab[pos]'hlt).toNat < 128 ∧ Utf8.decode lab pos = ((lab[pos]'hlt).toNat, 1)) ∨ (128 ≤ (lab[pos]'hlt).toNat ∧ 128 ≤ (Utf8.decode lab pos).1) := by
      by_cases h : (lab[pos]'hlt).toNat < 128
      · exact .inl ⟨h, decode_ascii lab pos hlt h⟩
      · refine .inr ⟨by omega, decode_hi lab pos ?_⟩
        have e : lab.get! (pos + 0) = lab[pos]'hlt := by
          show lab.get! pos = _
          simp [ByteArray.get!, getElem!_pos, hlt]
          rfl
        rw [e]; exact h
    clear this hw'
    generalize hdc : Utf8.decode lab pos = dc at *
    obtain ⟨c, wd⟩ := dc
    dsimp only at hc hw2 ⊢
    generalize hby : (lab[pos]'hlt).toNat = by0 at *
    have hc0 : (c : Int) = by0 ∧ wd = 1 ∨ 128 ≤ by0 ∧ 128 ≤ c := by
      rcases hc with ⟨_, h⟩ | h
      · simp only [Prod.mk.injEq] at h; exact .inl ⟨by omega, h.2⟩
      · exact .inr h
    have h48 : (by0 : Int) = 48 ↔ (c : Int) = 48 := by omega
    refine ⟨fun t w => t = decide (0 ≤ last ∨ (decide (pos = 0) = true ∧ (by0 : Int) = 48) ∨ row > 60) ∧ Sat R (pts b (.stringIter lab (pos + wd)) :: pts p (layC n s) :: Hs) w, ?_, ?_⟩
    · refine Br.d (fun h => ⟨?_, hw2⟩) (fun h => Br.e (fun h2 => Br.e (fun h3 => ⟨?_, hw2⟩) (fun h3 => ⟨?_, hw2⟩)) (fun h2 => ⟨?_, hw2⟩))
      · rw [decide_eq_true (.inl h)]
      · rw [decide_eq_true (.inr (.inl ⟨decide_eq_true (by omega), h48.2 h3⟩))]
      · rw [decide_eq_decide]
        constructor
        · intro h4; exact .inr (.inr h4)
        · rintro (h4 | ⟨_, h4⟩ | h4)
          · omega
          · exact absurd (h48.1 h4) h3
          · exact h4
      · rw [decide_eq_decide]
        constructor
        · intro h4; exact .inr (.inr h4)
        · rintro (h4 | ⟨h4, _⟩ | h4)
          · omega
          · have := of_decide_eq_true h4; omega
          · exact h4
    clear hw hw2
    rintro _ _ w3 ⟨rfl, hw⟩
    refine Br.d (fun h => ⟨?_, hw.drop.drop⟩) (fun h => ?_)
    · rw [prs_step] at hprs
      rw [if_pos h] at hprs
      rw [no hprs.symm]
    rw [prs_step] at hprs
    rw [if_neg h] at hprs
    refine ⟨fun t w => t = isDig c ∧ Sat R (pts b (.stringIter lab (pos + wd)) :: pts p (layC n s) :: Hs) w, ?_, ?_⟩
    · unfold isDig
      refine Br.d (fun h => ⟨?_, hw⟩) (fun h => ⟨?_, hw⟩)
      · rw [decide_eq_decide]; omega
      · rw [decide_eq_false (by omega)]
    clear hw
    rintro _ _ w4 ⟨rfl, hw⟩
    refine Br.mk (fun h2 => ?_) (fun h2 => ?_)
    · have h3 := of_decide_eq_true h2
      rcases hc0 with ⟨hcb, rfl⟩ | hc0
      · rw [← hcb, if_pos h2] at hprs
        rw [show IntKind.i32.wrap ((c : Int) - 48) = (c : Int) - 48 by rw [IntKind.wrap_i32]; omega, wrap64 (x := 10 * row) (by omega) (by omega), wrap64 (x := (c : Int) - 48) (by omega) (by omega), wrap64 (by omega) (by omega)]
        refine ⟨⟨pos + 1, by omega, ?_, by omega, by omega, by omega, by omega, hw⟩, ?_⟩
        · rw [decide_eq_false (by omega)]; exact hprs
        · have : w4.iterPos b = pos + 1 := by have := hw.at; simp [World.iterPos, this]
          rw [this, hpw]; omega
      · omega
    · refine (column_spec hw).use ?_
      rintro _ w5 ⟨rfl, hw⟩
      refine ⟨_, rfl, Br.d (fun h3 => ⟨?_, hw.drop.drop⟩) (fun h3 => ?_)⟩
      · have hno : colI (by0 : Int) < 0 := by
          rcases hc0 with ⟨hcb, rfl⟩ | hc0
          · rw [← hcb]; exact h3
          · exact colI_hi (by omega)
        have hnd : isDig (by0 : Int) = false := by
          rcases hc0 with ⟨hcb, rfl⟩ | hc0
          · rw [← hcb]; exact h2
          · exact decide_eq_false (by omega)
        rw [hnd, if_neg (by simp), if_pos hno] at hprs
        rw [no hprs.symm]
      · obtain ⟨c0, c1, c2⟩ := colI_out h3
        rcases hc0 with ⟨hcb, rfl⟩ | hc0
        · rw [← hcb, h2, if_neg (by simp), if_neg h3] at hprs
          refine ⟨⟨pos + 1, by omega, ?_, by omega, by omega, by omega, by omega, hw⟩, ?_⟩
          · rw [decide_eq_false (by omega)]; exact hprs
          · have : w5.iterPos b = pos + 1 := by have := hw.at; simp [World.iterPos, this]
            rw [this, hpw]; omega
        · have := colI_hi (c := (c : Int)) (by omega); omega
  · rw [List.drop_eq_nil_of_le (by rw [bytesL_len]; omega)] at hprs
    have hw := hw.drop
    have ef : findP n g.sum lab = if row < 1 ∨ row > n ∨ last < 0 ∨ last ≥ g.sum then (0, 2) else ((row - 1) * g.sum + last, 0) := by
      unfold findP; rw [← hprs]; rfl
    rw [ef]
    refine Br.d (fun h => ⟨by rw [if_pos (.inl h)], hw.drop⟩) (fun h1 => ?_)
    refine ⟨n, At.own (eqS hw) (by exact ⟨rfl, trivial⟩), Br.d (fun h => ⟨by rw [if_pos (.inr (.inl h))], hw.drop⟩) (fun h2 => ?_)⟩
    refine Br.d (fun h => ⟨by rw [if_pos (.inr (.inr (.inl h)))], hw.drop⟩) (fun h3 => ?_)
    refine ⟨n, s, At.own (eqS hw) (by exact ⟨rfl, rfl, trivial⟩), ?_⟩
    refine (across_spec hs (fun x hx => by have := l2 x hx; omega) (by omega) hw).use ?_
    rintro _ w ⟨rfl, hw⟩
    refine ⟨_, rfl, Br.d (fun h => ⟨by rw [if_pos (.inr (.inr (.inr h)))], hw.drop⟩) (fun h4 => ?_)⟩
    refine ⟨n, s, At.own (eqS hw) (by exact ⟨rfl, rfl, trivial⟩), ?_⟩
    refine (across_spec hs (fun x hx => by have := l2 x hx; omega) (by omega) hw).use ?_
    rintro _ w ⟨rfl, hw⟩
    refine ⟨_, rfl, ?_, hw.drop⟩
    have hm := mul_bd (a := row - 1) (b := g.sum) (by omega) (by omega) (by omega) (by omega)
    rw [if_neg (by omega), wrap64 (x := row - 1) (by omega) (by omega), wrap64 (x := (row - 1) * g.sum) (by omega) (by omega), wrap64 (by omega) (by omega)]
end Go.Proofs.YtfgbbckfikiomaaGreatDoor
/- The names of seats: reference 13; groups of a row. Condition: none. -/
namespace Go.Proofs.YtfgbbckfikiomaaGreatDoor
set_option linter.unusedVariables false
open Go Go.VC
variable {R : Cx} {Hs Rest : List HP} {w : World}
def sideF : List Int → Int → Int × Int
  | [], _ => (0, 0)
  | x :: g, a => if a < x then (a, x - 1 - a) else sideF g (a - x)
theorem sideF_cons (x : Int) (g : List Int) (a : Int) : sideF (x :: g) a = if a < x then (a, x - 1 - a) else sideF g (a - x) := rfl
theorem sides_spec {n k : Int} {s : Sl} {g : List Int} (hs : RoI R s g) (hg : ∀ x ∈ g, 1 ≤ x ∧ x ≤ 10) (hl : g.length ≤ 4) (hl1 : 1 ≤ g.length) (hk : 0 ≤ k) (hw : Sat R Hs w) :
    Gets Tryz.prog 238 #[.agg #[.int .i64 n, .slice s.a s.len s.cap], .int .i64 k] w fun v w' => v = .tuple #[.int .i64 (sideF g (k % g.sum)).1, .int .i64 (sideF g (k % g.sum)).2] ∧ Sat R Hs w' := by
  have hlen := hs.len
  have hp := sum_pos hg hl1
  apply call238
  refine new_rule hw fun p w hw => ?_
  have hw : Sat R (pts p (layC n s) :: Hs) w := hw
  refine ⟨n, s, At.own (eqS hw) (by exact ⟨rfl, rfl, trivial⟩), ?_⟩
  refine (across_spec hs (fun x hx => by have := hg x hx; omega) hl hw).use ?_
  rintro _ w ⟨rfl, hw⟩
  refine ⟨_, rfl, Nz.mk (by omega) ⟨s, At.own (eqS hw) (by exact ⟨rfl, trivial⟩), ?_⟩⟩
  rw [Int.tmod_eq_emod_of_nonneg hk]
  have m0 := Int.emod_nonneg k (show g.sum ≠ 0 by omega)
  have m1 := Int.emod_lt_of_pos k (show 0 < g.sum by omega)
  have hsb := sum_bd (g := g) (fun x hx => by have := hg x hx; omega)
  generalize k % g.sum = a at *
  refine ⟨fun at' i w => ∃ j : Nat, i = j ∧ j ≤ g.length ∧ 0 ≤ at' ∧ at' ≤ a ∧ sideF (g.drop j) at' = sideF g a ∧ Sat R (pts p (layC n s) :: Hs) w, fun _ i _ => g.length - i.toNat, ⟨0, rfl, by omega, by omega, by omega, rfl, hw⟩, ?_⟩
  clear hw
  rintro _ at' _ w ⟨j, rfl, hj, h0, h1, hn, hw⟩
  refine Br.d (fun h => ?_) (fun h => ?_)
  · have hj2 : j < g.length := by omega
    have hx := hg g[j] (List.getElem_mem _)
    rw [List.drop_eq_getElem_cons hj2, sideF_cons] at hn
    refine hs.idx (eqS hw) hj2 ?_
    refine Br.d (fun h2 => ⟨?_, hw.drop⟩) (fun h2 => ?_)
    · rw [if_pos h2] at hn
      rw [wrap64 (x := g[j] - 1) (by omega) (by omega), wrap64 (by omega) (by omega)]
      have := hn.symm
      rw [show sideF g a = (at', g[j] - 1 - at') from this]
    · rw [if_neg h2] at hn
      rw [wrap64 (x := at' - g[j]) (by omega) (by omega), wrap64 (by omega) (by omega)]
      exact ⟨⟨j + 1, by omega, by omega, by omega, by omega, hn, hw⟩, by dsimp only; omega⟩
  · rw [List.drop_eq_nil_of_le (by omega)] at hn
    refine ⟨?_, hw.drop⟩
    rw [show sideF g a = (0, 0) from hn.symm]
end Go.Proofs.YtfgbbckfikiomaaGreatDoor
/- Seats side by side, plain: the first that are free, of one group; else the first that are free. No program in sight. Condition: none. -/
namespace Go.Proofs.YtfgbbckfikiomaaGreatDoor
set_option linter.unusedVariables false
open Go Go.VC
section
variable (u z : Nat → Bool)
def freeL : Nat → List Nat
  | 0 => []
  | j + 1 => freeL j ++ (if u j then [] else [j])
def runL : Nat → Nat
  | 0 => 0
  | j + 1 => if u j then 0 else (if z j then 0 else runL j) + 1
def upTo (j many : Nat) : List Nat := (List.range many).map fun t => j - many + t
def bestF (N many : Nat) : List Nat × Int :=
  match (List.range N).find? fun j => runL u z (j + 1) == many with
  | some j => (upTo (j + 1) many, 0)
  | none => if (freeL u N).length < many then ([], 3) else ((freeL u N).take many, 0)
variable {u z}
theorem freeL_succ (j : Nat) : freeL u (j + 1) = freeL u j ++ (if u j then [] else [j]) := rfl
theorem free_of {i j : Nat} : ∀ {N : Nat}, (freeL u N)[i]? = some j → j < N ∧ u j = false ∧ (freeL u j).length = i
  | 0, h => by simp [freeL] at h
  | N + 1, h => by
    rw [freeL_succ] at h
    by_cases hi : i < (freeL u N).length
    · rw [List.getElem?_append_left hi] at h
      obtain ⟨h1, h2⟩ := free_of h
      exact ⟨by omega, h2⟩
    · rw [List.getElem?_append_right (by omega)] at h
      split at h
      · simp at h
      · rename_i hu
        rcases hk : i - (freeL u N).length with _ | k
        · rw [hk] at h
          simp at h; subst h
          exact ⟨by omega, by simpa using hu, by omega⟩
        · rw [hk] at h; simp at h
theorem free_step (j : Nat) : (freeL u (j + 1)).length = (freeL u j).length + (if u j then 0 else 1) := by
  rw [freeL_succ, List.length_append]; split <;> rfl
theorem free_ge {j : Nat} : ∀ t : Nat, (freeL u j).length ≤ (freeL u (j + t)).length
  | 0 => by simp
  | t + 1 => by
    have := free_ge (j := j) t
    rw [← Nat.add_assoc, free_step]; omega
theorem runL_succ (j : Nat) : runL u z (j + 1) = if u j then 0 else (if z j then 0 else runL u z j) + 1 := rfl
theorem runL_ge : ∀ {j m : Nat}, m ≤ runL u z j ↔ m ≤ j ∧ ∀ x, j - m ≤ x → x < j → u x = false ∧ (j - m < x → z x = false)
  | j, 0 => ⟨fun _ => ⟨by omega, fun x h1 h2 => by omega⟩, fun _ => by omega⟩
  | 0, m + 1 => ⟨fun h => by simp [runL] at h, fun h => by omega⟩
  | j + 1, m + 1 => by
    rw [runL_succ]
    cases hu : u j with
    | true =>
      refine ⟨fun h => by simp at h, fun h => ?_⟩
      have := (h.2 j (by omega) (by omega)).1
      rw [hu] at this; cases this
    | false =>
      simp only [Bool.false_eq_true, if_false]
      cases hz : z j with
      | true =>
        simp only [if_true]
        constructor
        · intro h
          obtain rfl : m = 0 := by omega
          exact ⟨by omega, fun x h1 h2 => by
            obtain rfl : x = j := by omega
            exact ⟨hu, fun h => by omega⟩⟩
        · intro h
          by_cases hm : m = 0
          · omega
          · have := (h.2 j (by omega) (by omega)).2 (by omega)
            rw [hz] at this; cases this
      | false =>
        simp only [Bool.false_eq_true, if_false]
        have ih := runL_ge (j := j) (m := m)
        constructor
        · intro h
          obtain ⟨h1, h2⟩ := ih.1 (by omega)
          refine ⟨by omega, fun x h3 h4 => ?_⟩
          by_cases hx : x = j
          · subst hx; exact ⟨hu, fun _ => hz⟩
          · obtain ⟨h5, h6⟩ := h2 x (by omega) (by omega)
            exact ⟨h5, fun h => h6 (by omega)⟩
        · rintro ⟨h1, h2⟩
          have := ih.2 ⟨by omega, fun x h3 h4 => by
            obtain ⟨h5, h6⟩ := h2 x (by omega) (by omega)
            exact ⟨h5, fun h => h6 (by omega)⟩⟩
          omega
variable {N many : Nat} {grp : Nat → Int}
theorem best_none (hm : 1 ≤ many) (h : ∀ j, j < N → ¬ many ≤ runL u z (j + 1)) : bestF u z N many = if (freeL u N).length < many then ([], 3) else ((freeL u N).take many, 0) := by
  unfold bestF
  have : ((List.range N).find? fun j => runL u z (j + 1) == many) = none := by
    rw [List.find?_eq_none]
    intro j hj h2
    have h2 := beq_iff_eq.1 h2
    exact h j (List.mem_range.1 hj) (by omega)
  rw [this]
theorem best_some (hm : 1 ≤ many) {j : Nat} (hj : j < N) (h : runL u z (j + 1) = many) (hn : ∀ k, k < j → ¬ many ≤ runL u z (k + 1)) : bestF u z N many = (upTo (j + 1) many, 0) := by
  unfold bestF
  have : ((List.range N).find? fun j => runL u z (j + 1) == many) = some j := by
    rw [List.find?_range_eq_some]
    exact ⟨by simpa using h, List.mem_range.2 hj, fun k hk => by
      have := hn k hk
      simp only [Bool.not_eq_true', beq_eq_false_iff_ne]; omega⟩
  rw [this]
end
def zF (g : List Int) (k : Nat) : Bool := (sideF g ((k : Int) % g.sum)).1 == 0
end Go.Proofs.YtfgbbckfikiomaaGreatDoor
/- SL, part 15: new rows of so many zeros; elements of any one cell. Condition: bounds on lengths. -/
namespace Go.VC
set_option linter.unusedVariables false
variable {P : Program} {R : Cx} {Hs Rest : List HP} {w : World} {s : Sl} {T : TypeId}
theorem make_rule {t : TypeId} {bytes n : Nat} {kl kc : IntKind} {z : Value} {K : Sl → World → Prop} (ht : P.underlying t = some (.slice T)) (hi : elB P T bytes = true) (hv : ∀ w, (zeroValue T).run P w = .ok z w) (h1 : z.cells = #[z])
    (hn : bytes * n ≤ 281474976710656) (h63 : n ≤ 9223372036854775807) (hw : Sat R Hs w) (k : ∀ s' w', Sat R (Own s' T (List.replicate n z) :: Hs) w' → K s' w') :
    ∃ w', ∃ t' : Sl, (Instr.makeSlice t (.int kl (n : Int)) (.int kc (n : Int))).run P w = .ok (.slice t'.a t'.len t'.cap) w' ∧ K t' w' := by
  obtain ⟨i, z', hi, hz, hs, hb, hc⟩ := elB_out hi
  have hzz : z' = z := by
    have := hv w
    simp [zeroValue, hi, hz, typeInfo] at this
    exact this
  subst hzz
  have hb' : (i.bytes : Int) * (n : Int) ≤ 281474976710656 := by
    rw [hb]
    have h : ((bytes * n : Nat) : Int) ≤ 281474976710656 := by omega
    rwa [Int.natCast_mul] at h
  have hr := run_make (P := P) w t T i z' ht hi hz kl kc n n (by omega) (Int.le_refl _) hb' (by omega)
  simp only [Int.toNat_natCast, hs, Nat.mul_one, h1] at hr
  refine ⟨_, ⟨some ⟨w.heap.size, 0, none⟩, n, n⟩, hr, k _ _ ?_⟩
  have e : madeCells #[z'] n = (List.replicate n z').toArray := by
    apply Array.ext
    · simp [size_madeCells]
    · intro j h1 h2
      simp [madeCells, Nat.mod_one]
  rw [e]
  exact own_lit (hw.alloc _) (by simp)
theorem Own.idxB {xs : List Bool} {S : World → Prop} {Hs' : List HP} {i : Int} (hw : Sat R (Own s T (xs.map Value.bool) :: Hs) w) (hS : ∀ w, S w → Sat R (Own s T (xs.map Value.bool) :: Hs') w) (k : Nat) (hi : i = k) (hk : k < xs.length) {F : Bool → Prop} (h : F xs[k]) :
    Rng i s.len (NilP s.a fun a => ∃ t : Bool, (At S (a.add i.toNat) [.bool t]) ∧ F t) := by
  subst hi
  obtain ⟨b, ha, hat⟩ := Own.addr hw (k := k) (by simpa using hk)
  have hl := Own.len hw
  rw [List.length_map] at hl
  refine Rng.mk (by omega) (by omega) (NilP.mk ha ⟨xs[k], ?_, h⟩)
  have := hat hS
  simpa using this
theorem Own.storeV {t : TypeId} {xs : List Value} {v : Value} {i : Int} (hsz : (P.info? t).map (·.size) = some 1) (hv : v.cells = #[v]) (h1 : v.oneCell' = true) (hw : Sat R (Own s T xs :: Hs) w) (k : Nat) (hi : i = k) (hk : k < xs.length) {K : World → Prop}
    (h : ∀ w', Sat R (Own s T (xs.set k v) :: Hs) w' → K w') :
    Rng i s.len (NilP s.a fun a => ∃ w', (Instr.storeAt t (.pointer (some (Addr.add a i.toNat))) v).run P w = .ok () w' ∧ K w') := by
  subst hi
  have hl := Own.len hw
  rcases Own.cases hw with ⟨_, h0, _⟩ | ⟨b, rest, fr, rfl, hfr, hp⟩
  · subst h0; simp at hk
  · refine Rng.mk (by omega) (by simp only at hl ⊢; omega) (NilP.mk rfl ?_)
    rw [add_off]
    refine store_rule hp (by rw [hsz, hv]; rfl) (by rw [hv]; simp [oneAll, h1]) (by rw [hv]; simp; omega) fun w' h2 => h w' ?_
    have e : putL (xs ++ rest) (0 + (k : Int).toNat) v.cells.toList = xs.set k v ++ rest := by
      rw [hv]
      simp only [putL, Nat.zero_add, Int.toNat_natCast]
      rw [List.set_append_left _ _ hk]
    rw [e] at h2
    have h3 := Own.of_pts h2 (hfr.le (by simp))
    simpa using h3
theorem Own.ix {kd : IntKind} {xs : List Int} {S : World → Prop} {Hs' : List HP} {i : Int} (hw : Sat R (Own s T (xs.map (Value.int kd)) :: Hs) w) (hS : ∀ w, S w → Sat R (Own s T (xs.map (Value.int kd)) :: Hs') w) (k : Nat) (hi : i = k) (hk : k < xs.length) {F : Int → Prop} (h : F xs[k]) :
    Rng i s.len (NilP s.a fun a => ∃ t : Int, (At S (a.add i.toNat) [.int kd t]) ∧ F t) := by
  subst hi; exact Own.idx hw hS hk h
end Go.VC
/- Seats side by side: packages seat and reference 13. Condition: none. -/
namespace Go.Proofs.YtfgbbckfikiomaaGreatDoor
set_option linter.unusedVariables false
open Go Go.VC
variable {R : Cx} {Hs Rest : List HP} {w : World}
theorem elI8 : El Tryz.prog 28 28 3 8 := ⟨Tryz.underlying28, ⟨_, Tryz.underlying28⟩, by kernel_rfl⟩
abbrev ints (l : List Nat) : List Value := (l.map fun (j : Nat) => (j : Int)).map (Value.int .i64)
def usedF (taken : List Int) (j : Nat) : Bool := decide ((j : Int) ∈ taken)
def bestT (n : Int) (g : List Int) (taken : List Int) (many : Int) : List Int × Int :=
  if many < 1 ∨ many > layN n g then ([], 1)
  else ((bestF (usedF taken) (zF g) (layN n g).toNat many.toNat).1.map fun (j : Nat) => (j : Int), (bestF (usedF taken) (zF g) (layN n g).toNat many.toNat).2)
theorem runL_le {u z : Nat → Bool} : ∀ j, runL u z j ≤ j
  | 0 => Nat.le_refl _
  | j + 1 => by
    have := runL_le (u := u) (z := z) j
    rw [runL_succ]; split
    · omega
    · split <;> omega
theorem upTo_succ {j m : Nat} (h : m ≤ j) : upTo (j + 1) (m + 1) = upTo j m ++ [j] := by
  unfold upTo
  rw [List.range_succ, List.map_append]
  congr 1
  · refine List.map_congr_left fun t _ => by omega
  · simp; omega
theorem upTo_len (j m : Nat) : (upTo j m).length = m := by unfold upTo; simp
theorem freeL_len {u : Nat → Bool} : ∀ j, (freeL u j).length ≤ j
  | 0 => Nat.le_refl _
  | j + 1 => by
    have := freeL_len (u := u) j
    rw [free_step]; split <;> omega
theorem ints_len (l : List Nat) : (ints l).length = l.length := by simp [ints]
theorem own_take {s : Sl} {T : TypeId} {xs : List Value} {k : Nat} (hk : k ≤ xs.length) (hw : Sat R (Own s T xs :: Hs) w) : Sat R (Own ⟨s.a, k, s.cap⟩ T (xs.take k) :: Hs) w := by
  rcases Own.cases hw with ⟨rfl, rfl, hn⟩ | ⟨b, rest, fr, rfl, hfr, hp⟩
  · obtain rfl : k = 0 := by simpa using hk
    exact Own.nil hn
  · have e : xs ++ rest = xs.take k ++ (xs.drop k ++ rest) := by rw [← List.append_assoc, List.take_append_drop]
    rw [e] at hp hfr ⊢
    have := Own.of_pts hp hfr
    rw [show (xs.take k).length = k by rw [List.length_take]; omega] at this
    exact this
theorem best_spec {n many : Int} {s st : Sl} {g taken : List Int} (hs : RoI R s g) (ht : RoI R st taken) (hw : Sat R Hs w) :
    Gets Tryz.prog 188 #[.agg #[.int .i64 n, .slice s.a s.len s.cap], .slice st.a st.len st.cap, .int .i64 many] w fun v w' => ∃ t : Sl, v = .tuple #[.slice t.a t.len t.cap, .int .i64 (bestT n g taken many).2] ∧ Sat R (Reads t ((bestT n g taken many).1.map (Value.int .i64)) :: Hs) w' := by
  have hbd := layN_bd n g
  have htl := ht.len
  have htb := ht.bound
  have bad : (many < 1 ∨ many > layN n g) → ∀ w, Sat R (pts 0 (.cells #[] 0 (0, 0)) :: Hs) w ∨ Sat R Hs w → ∃ t : Sl, Value.tuple #[.slice none 0 0, .int .i64 1] = .tuple #[.slice t.a t.len t.cap, .int .i64 (bestT n g taken many).2] ∧ Sat R (Reads t ((bestT n g taken many).1.map (Value.int .i64)) :: Hs) w := fun h w hw => by
    have e : bestT n g taken many = ([], 1) := by unfold bestT; rw [if_pos h]
    rw [e]
    exact ⟨⟨none, 0, 0⟩, rfl, Own.reads (T := 0) (Own.nil (by rcases hw with h | h; exact h.drop; exact h))⟩
  apply call188
  refine new_rule hw fun p w hw => ?_
  have hw : Sat R (pts p (layC n s) :: Hs) w := hw
  refine ⟨fun w => (1 ≤ many ∧ many ≤ layN n g) ∧ Sat R (pts p (layC n s) :: Hs) w, Br.d (fun h => bad (.inl h) _ (.inr hw.drop)) (fun h1 => ?_), ?_⟩
  · refine ⟨n, s, At.own (eqS hw) (by exact ⟨rfl, rfl, trivial⟩), ?_⟩
    refine (count_spec hs hw).use ?_
    rintro _ w ⟨rfl, hw⟩
    exact ⟨_, rfl, Br.d (fun h => bad (.inr h) _ (.inr hw.drop)) (fun h => ⟨⟨by omega, by omega⟩, hw⟩)⟩
  clear hw
  rintro _ w ⟨⟨hm1, hm2⟩, hw⟩
  have hok : layOk n g = true := by
    by_cases hok : layOk n g = true
    · exact hok
    · unfold layN at hm2; rw [if_neg hok] at hm2; omega
  obtain ⟨l1, l2, l3⟩ := layOk_iff.1 hok
  have eT : bestT n g taken many = ((bestF (usedF taken) (zF g) (layN n g).toNat many.toNat).1.map fun (j : Nat) => (j : Int), (bestF (usedF taken) (zF g) (layN n g).toNat many.toNat).2) := by
    unfold bestT; rw [if_neg (by omega)]
  rw [eT]
  obtain ⟨N, hN⟩ := Int.eq_ofNat_of_zero_le hbd.1
  obtain ⟨m, rfl⟩ := Int.eq_ofNat_of_zero_le (show 0 ≤ many by omega)
  rw [hN] at hbd hm2 ⊢
  rw [Int.toNat_natCast, Int.toNat_natCast]
  clear bad eT
  generalize hu : usedF taken = u
  generalize hz : zF g = z
  refine ⟨n, s, At.own (eqS hw) (by exact ⟨rfl, rfl, trivial⟩), ?_⟩
  refine (count_spec hs hw).use ?_
  rw [hN]
  rintro _ w ⟨rfl, hw⟩
  refine ⟨_, rfl, ?_⟩
  refine make_rule (bytes := 1) (z := .bool false) Tryz.underlying261 (by kernel_rfl) Tryz.zeroValue4 rfl (by omega) (by omega) hw fun su w hw => ?_
  -- which ones are taken
  refine ⟨fun i w => ∃ j : Nat, i = j ∧ j ≤ taken.length ∧ Sat R (Own su 4 (((List.range N).map (usedF (taken.take j))).map Value.bool) :: pts p (layC n s) :: Hs) w, fun i _ => taken.length - i.toNat, ⟨0, rfl, by omega, ?_⟩, ?_⟩
  · have e : ((List.range N).map (usedF (taken.take 0))).map Value.bool = List.replicate N (.bool false) := by
      apply List.ext_getElem
      · simp
      · intro i h1 h2; simp [usedF]
    rw [e]; exact hw
  clear hw
  rintro _ _ w ⟨j, rfl, hj, hw⟩
  have hsl := Own.len hw
  simp only [List.length_map, List.length_range] at hsl
  refine Br.d (fun h => ?_) (fun h => ?_)
  · have hj2 : j < taken.length := by omega
    refine ht.idx (eqS hw) hj2 ?_
    refine ⟨n, s, At.own (eqS hw) (by exact ⟨rfl, rfl, trivial⟩), ?_⟩
    refine (shas_spec hs hw).use ?_
    rw [hN]
    rintro _ w ⟨rfl, hw⟩
    have hset : ∀ k : Nat, usedF (taken.take (j + 1)) k = (usedF (taken.take j) k || decide ((k : Int) = taken[j])) := fun k => by
      unfold usedF
      rw [List.take_add_one, List.getElem?_eq_getElem hj2]
      simp only [Option.toList_some, List.mem_append, List.mem_singleton]
      rw [Bool.decide_or]
    rw [wrap64 (by omega) (by omega)]
    refine ⟨_, rfl, Br.d (fun h2 => ?_) (fun h2 => ?_)⟩
    · obtain ⟨k, hk⟩ := Int.eq_ofNat_of_zero_le h2.1
      refine Own.storeV (by kernel_rfl) rfl rfl hw k hk (by simp; omega) fun w hw => ?_
      refine ⟨⟨j + 1, by omega, by omega, ?_⟩, by dsimp only; omega⟩
      have e : (((List.range N).map (usedF (taken.take j))).map Value.bool).set k (.bool true) = ((List.range N).map (usedF (taken.take (j + 1)))).map Value.bool := by
        rw [← List.map_set]
        congr 1
        apply List.ext_getElem
        · simp
        · intro i h3 h4
          simp only [List.length_map, List.length_range, List.length_set] at h3 h4
          rw [List.getElem_set]
          simp only [List.getElem_map, List.getElem_range]
          rw [hset]
          split
          · rename_i h5; subst h5; rw [decide_eq_true hk.symm, Bool.or_true]
          · rw [decide_eq_false (by omega), Bool.or_false]
      rw [e] at hw; exact hw
    · refine ⟨⟨j + 1, by omega, by omega, ?_⟩, by dsimp only; omega⟩
      have e : (List.range N).map (usedF (taken.take j)) = (List.range N).map (usedF (taken.take (j + 1))) := by
        refine List.map_congr_left fun i hi => ?_
        have hi := List.mem_range.1 hi
        rw [hset, decide_eq_false (by omega), Bool.or_false]
      rw [e] at hw; exact hw
  rw [List.take_of_length_le (show taken.length ≤ j by omega), hu] at hw
  -- the seats, one behind the other
  refine ⟨n, s, At.own (eqS hw) (by exact ⟨rfl, rfl, trivial⟩), ?_⟩
  refine (count_spec hs hw).use ?_
  rw [hN]
  rintro _ w ⟨rfl, hw⟩
  refine ⟨_, rfl, ?_⟩
  clear h hj hsl
  refine ⟨fun sf sr i w => ∃ j : Nat, i = j ∧ j ≤ N ∧ (∀ k, k < j → ¬ m ≤ runL u z (k + 1)) ∧ Sat R (Own sf 3 (ints (freeL u j)) :: Own sr 3 (ints (upTo j (runL u z j))) :: Own su 4 (((List.range N).map u).map Value.bool) :: pts p (layC n s) :: Hs) w,
    fun _ _ i _ => N - i.toNat, ⟨0, rfl, by omega, fun k h => by omega, Own.nil (Own.nil hw)⟩, ?_⟩
  clear hw
  rintro _ sf sr _ w ⟨j, rfl, hj, hn, hw⟩
  have hfl := freeL_len (u := u) j
  have hrl := runL_le (u := u) (z := z) j
  refine Br.d (fun h => ?_) (fun h => ?_)
  · have hjN : j < N := by omega
    have hused : ((List.range N).map u)[j]? = some (u j) := by rw [List.getElem?_map, List.getElem?_range hjN]; rfl
    have hgu : ∀ (hh : j < ((List.range N).map u).length), ((List.range N).map u)[j] = u j := fun hh => by simp
    refine ⟨fun sr w => Sat R (Own sf 3 (ints (freeL u j)) :: Own sr 3 (ints (if z j || u j then [] else upTo j (runL u z j))) :: Own su 4 (((List.range N).map u).map Value.bool) :: pts p (layC n s) :: Hs) w, ?_, ?_⟩
    · refine ⟨n, s, At.own (eqS hw) (by exact ⟨rfl, rfl, trivial⟩), ?_⟩
      refine (sides_spec hs l2 (by omega) (by omega) (by omega) hw).use ?_
      rintro _ w ⟨rfl, hw⟩
      have hzj : z j = ((sideF g ((j : Int) % g.sum)).1 == 0) := by rw [← hz]; rfl
      refine ⟨_, _, rfl, ?_⟩
      rw [← hzj]
      refine Br.mk (fun h2 => ?_) (fun h2 => ?_)
      · rw [h2]; exact Own.nil (hw.swap.drop) |>.swap
      · refine Own.idxB (hw.take (Own su 4 (((List.range N).map u).map Value.bool))) (eqS (hw.take (Own su 4 (((List.range N).map u).map Value.bool)))) j rfl (by simp; omega) ?_
        rw [hgu]
        refine Br.mk (fun h3 => ?_) (fun h3 => ?_)
        · rw [h2, h3]; exact Own.nil (hw.swap.drop) |>.swap
        · rw [h2, h3]; exact hw
    clear hw
    rintro _ sr w hw
    refine Own.idxB (hw.take (Own su 4 (((List.range N).map u).map Value.bool))) (eqS (hw.take (Own su 4 (((List.range N).map u).map Value.bool)))) j rfl (by simp; omega) ?_
    rw [hgu, wrap64 (by omega) (by omega)]
    refine Br.mk (fun h3 => ?_) (fun h3 => ?_)
    · refine ⟨⟨j + 1, by omega, by omega, fun k hk => ?_, ?_⟩, by dsimp only; omega⟩
      · by_cases hkj : k = j
        · rw [hkj, runL_succ, h3]; simp; omega
        · exact hn k (by omega)
      · rw [h3, Bool.or_true, if_pos rfl] at hw
        rw [freeL_succ, runL_succ, h3]
        simp only [if_true, List.append_nil]
        exact hw
    · refine pushI_rule elI8 hw (by rw [List.length_map]; omega) fun sf' w hw => ?_
      have hrun : (if z j || u j then [] else upTo j (runL u z j)) ++ [j] = upTo (j + 1) (runL u z (j + 1)) := by
        rw [runL_succ, h3, Bool.or_false]
        simp only [Bool.false_eq_true, if_false]
        cases hzz : z j with
        | true => simp [upTo]
        | false =>
          simp only [Bool.false_eq_true, if_false]
          exact (upTo_succ hrl).symm
      have hrl2 := runL_le (u := u) (z := z) (j + 1)
      refine pushI_rule elI8 hw.swap (by rw [List.length_map]; split <;> simp [upTo_len] <;> omega) fun sr' w hw => ?_
      have hw : Sat R (Own sr' 3 (ints (upTo (j + 1) (runL u z (j + 1)))) :: Own sf' 3 (ints (freeL u (j + 1))) :: Own su 4 (((List.range N).map u).map Value.bool) :: pts p (layC n s) :: Hs) w := by
        have e1 : ints (freeL u (j + 1)) = (((freeL u j).map fun (j : Nat) => (j : Int)) ++ [(j : Int)]).map (Value.int .i64) := by rw [freeL_succ, h3]; simp [ints]
        have e2 : ints (upTo (j + 1) (runL u z (j + 1))) = (((if z j || u j then [] else upTo j (runL u z j)).map fun (j : Nat) => (j : Int)) ++ [(j : Int)]).map (Value.int .i64) := by rw [← hrun]; simp only [ints, List.map_append, List.map_cons, List.map_nil]
        rw [e1, e2]; exact hw
      have hrlen := Own.len hw
      rw [ints_len, upTo_len] at hrlen
      refine Br.e (fun h4 => ?_) (fun h4 => ?_)
      · have hbs := best_some (u := u) (z := z) (many := m) (N := N) (by omega) hjN (by omega) hn
        rw [hbs]
        refine ⟨sr', rfl, ?_⟩
        have := Own.reads hw
        rw [show runL u z (j + 1) = m by omega] at this
        exact Sat.cons (fun R' h => h.drop.drop.drop) this
      · refine ⟨⟨j + 1, by omega, by omega, fun k hk hr => ?_, hw.swap⟩, by dsimp only; omega⟩
        by_cases hkj : k = j
        · subst hkj
          have : runL u z (k + 1) ≤ runL u z k + 1 := by rw [runL_succ]; split <;> (try split) <;> omega
          have : runL u z k < m := by
            by_cases hk0 : k = 0
            · rw [hk0]; simp only [runL]; omega
            · have := hn (k - 1) (by omega)
              rw [show k - 1 + 1 = k by omega] at this; omega
          omega
        · exact hn k (by omega) hr
  · obtain rfl : j = N := by omega
    have hbn := best_none (u := u) (z := z) (many := m) (N := j) (by omega) hn
    have hfl2 := Own.len hw
    have hcap := Own.cap hw
    rw [ints_len] at hfl2
    rw [hbn]
    refine Br.d (fun h4 => ?_) (fun h4 => ?_)
    · rw [if_pos (by omega)]
      exact ⟨⟨none, 0, 0⟩, rfl, Own.reads (T := 0) (Own.nil hw.drop.drop.drop.drop)⟩
    · rw [if_neg (by omega)]
      refine ⟨by omega, by omega, ⟨sf.a, m, sf.cap⟩, rfl, ?_⟩
      have := Own.reads (own_take (k := m) (by rw [ints_len]; omega) hw)
      rw [show (ints (freeL u j)).take m = ints ((freeL u j).take m) by simp [ints, List.map_take]] at this
      exact Sat.cons (fun R' h => h.drop.drop.drop) this
end Go.Proofs.YtfgbbckfikiomaaGreatDoor
/- Seats side by side: reference 13. Condition: none. -/
namespace Go.Proofs.YtfgbbckfikiomaaGreatDoor
set_option linter.unusedVariables false
open Go Go.VC
variable {R : Cx} {Hs Rest : List HP} {w : World}
theorem _root_.Go.VC.Sat.imp {A B : HP} (h : ∀ m, A m → B m) (hw : Sat R (A :: Hs) w) : Sat R (B :: Hs) w := let ⟨m, a, b, c⟩ := hw; ⟨m, h m a, b, c⟩
end Go.Proofs.YtfgbbckfikiomaaGreatDoor
