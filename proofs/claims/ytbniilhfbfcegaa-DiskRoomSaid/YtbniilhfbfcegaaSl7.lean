/- SL, part 7: a map of one's own, by its keys and values; opening of what holds for some x. No condition. -/
import Derived.Test.YtbniilhfbfcegaaSl6
namespace Go.VC
variable {α : Type} [BEq α] [KeyK α]

/-- Key and value. -/
def getM {β : Type} (k : α) : List (α × β) → Option β
  | [] => none
  | e :: es => if k == e.1 then some e.2 else getM k es
def setM {β : Type} (k : α) (v : β) : List (α × β) → List (α × β)
  | [] => []
  | e :: es => if k == e.1 then (e.1, v) :: es else e :: setM k v es
def delM {β : Type} (k : α) : List (α × β) → List (α × β)
  | [] => []
  | e :: es => if k == e.1 then es else e :: delM k es
def putM {β : Type} (k : α) (v : β) (es : List (α × β)) : List (α × β) := if (getM k es).isSome then setM k v es else es ++ [(k, v)]

abbrev strip (es : List (En α)) : List (α × Value) := es.map fun e => (e.1, e.2.1)

omit [KeyK α] in
theorem getE_strip (k : α) : ∀ es : List (En α), getE k es = getM k (strip es)
  | [] => rfl
  | e :: es => by rw [getE, strip, List.map_cons, getM, getE_strip k es]
omit [KeyK α] in
theorem hasE_strip (k : α) (es : List (En α)) : hasE k es = (getM k (strip es)).isSome := by unfold hasE; rw [getE_strip]
omit [KeyK α] in
theorem setE_strip (k : α) (v : Value) : ∀ es : List (En α), strip (setE k v es) = setM k v (strip es)
  | [] => rfl
  | e :: es => by
    have ih := setE_strip k v es
    unfold strip at *
    rw [List.map_cons, setE, setM]
    split
    · simp
    · simp [ih]
omit [KeyK α] in
theorem delE_strip (k : α) : ∀ es : List (En α), strip (delE k es) = delM k (strip es)
  | [] => rfl
  | e :: es => by
    have ih := delE_strip k es
    unfold strip at *
    rw [List.map_cons, delE, delM]
    split
    · rfl
    · simp [ih]
omit [KeyK α] in
theorem putE_strip (k : α) (v : Value) (es : List (En α)) (c : Nat) : strip (putE k v es c) = putM k v (strip es) := by
  unfold putE putM
  rw [hasE_strip]
  split
  · exact setE_strip k v es
  · simp [strip]

/-- The entries' stamps are apart, and below the clock. -/
def StampsOk (l : List (En α)) (c : Nat) : Prop := (∀ e ∈ l, e.2.2 < c) ∧ (l.map (·.2.2)).Nodup

omit [KeyK α] in
theorem setE_stamps (k : α) (v : Value) : ∀ l : List (En α), (setE k v l).map (·.2.2) = l.map (·.2.2)
  | [] => rfl
  | e :: es => by
    rw [setE]
    split
    · rfl
    · rw [List.map_cons, List.map_cons, setE_stamps k v es]
omit [KeyK α] in
theorem delE_sub (k : α) : ∀ l : List (En α), (delE k l).Sublist l
  | [] => List.Sublist.refl _
  | e :: es => by
    rw [delE]
    split
    · exact List.sublist_cons_self _ _
    · exact (delE_sub k es).cons_cons _
omit [KeyK α] in
theorem stamps_put {l : List (En α)} {c : Nat} (h : StampsOk l c) (k : α) (v : Value) : StampsOk (putE k v l c) (if hasE k l then c else c + 1) := by
  unfold putE
  split
  · refine ⟨fun e he => ?_, by rw [setE_stamps]; exact h.2⟩
    have : e.2.2 ∈ (setE k v l).map (·.2.2) := List.mem_map_of_mem he
    rw [setE_stamps] at this
    obtain ⟨x, hx, hxe⟩ := List.mem_map.1 this
    rw [← hxe]; exact h.1 x hx
  · refine ⟨fun e he => ?_, ?_⟩
    · rcases List.mem_append.1 he with he | he
      · have := h.1 e he; omega
      · simp at he; subst he; simp
    · rw [List.map_append, List.nodup_append]
      refine ⟨h.2, by simp, fun x hx y hy => ?_⟩
      simp at hy
      obtain ⟨e, he, rfl⟩ := List.mem_map.1 hx
      have := h.1 e he
      omega
omit [KeyK α] in
theorem stamps_del {l : List (En α)} {c : Nat} (h : StampsOk l c) (k : α) : StampsOk (delE k l) c :=
  ⟨fun e he => h.1 e ((delE_sub k l).subset he), ((delE_sub k l).map _).nodup h.2⟩

/-- Block m is a map of these keys and values, in the order in which they were put in. -/
def MapAt (m : Nat) (es : List (α × Value)) : HP := fun h => ∃ (l : List (En α)) (c : Nat), strip l = es ∧ StampsOk l c ∧ h = Heap.one m (.map (l.map mkE).toArray c)

theorem MapAt.iff {R : Cx} {Hs : List HP} {w : World} {m : Nat} {es : List (α × Value)} : Sat R (MapAt m es :: Hs) w ↔ ∃ l c, strip l = es ∧ StampsOk l c ∧ Sat R (pts m (.map (l.map (mkE (α := α))).toArray c) :: Hs) w := by
  constructor
  · rintro ⟨a, ⟨l, c, h1, h3, h2⟩, hd, hs⟩; exact ⟨l, c, h1, h3, a, h2, hd, hs⟩
  · rintro ⟨l, c, h1, h3, a, h2, hd, hs⟩; exact ⟨a, ⟨l, c, h1, h3, h2⟩, hd, hs⟩

/-- What is asked of a map's type. -/
structure MapT (P : Program) (T : TypeId) (α : Type) [BEq α] [KeyK α] (K E : TypeId) (z : Value) : Prop where
  hT : P.underlying T = some (.map K E)
  hK : P.underlying K = some (KeyK.desc α)
  hz : ∀ w, (zeroValue E).run P w = .ok z w

variable {P : Program} {R : Cx} {Hs : List HP} {w : World} {m : Nat} {es : List (α × Value)} {T K E : TypeId} {z : Value}

theorem MapAt.look (M : MapT P T α K E z) (hw : Sat R (MapAt m es :: Hs) w) (k : α) (c : Bool) :
    (Instr.lookup T (.map (some m)) (KeyK.enc k) c).run P w = .ok (if c then .tuple #[(getM k es).getD z, .bool (getM k es).isSome] else (getM k es).getD z) w := by
  obtain ⟨l, clk, rfl, _, hp⟩ := MapAt.iff.1 hw
  rw [lookup_run M.hT M.hK M.hz hp.at k c, getE_strip, hasE_strip]

theorem MapAt.put (M : MapT P T α K E z) (hw : Sat R (MapAt m es :: Hs) w) (k : α) (v : Value) {Q : World → Prop} (h : ∀ w', Sat R (MapAt m (putM k v es) :: Hs) w' → Q w') :
    ∃ w', (Instr.mapUpdate T (.map (some m)) (KeyK.enc k) v).run P w = .ok () w' ∧ Q w' := by
  obtain ⟨l, clk, rfl, hst, hp⟩ := MapAt.iff.1 hw
  refine ⟨_, update_run M.hT M.hK hp.at k v, h _ (MapAt.iff.2 ⟨putE k v l clk, _, putE_strip k v l clk, stamps_put hst k v, hp.setPts _⟩)⟩

theorem MapAt.del {t2 ty : TypeId} (M : MapT P T α K E z) (hw : Sat R (MapAt m es :: Hs) w) (k : α) {Q : World → Prop} (h : ∀ w', Sat R (MapAt m (delM k es) :: Hs) w' → Q w') :
    ∃ w', (Builtin.delete_ #[T, t2] ty #[.map (some m), KeyK.enc k]).run P w = .ok (.tuple #[]) w' ∧ Q w' := by
  obtain ⟨l, clk, rfl, hst, hp⟩ := MapAt.iff.1 hw
  exact ⟨_, delete_run M.hT M.hK hp.at k, h _ (MapAt.iff.2 ⟨delE k l, _, delE_strip k l, stamps_del hst k, hp.setPts _⟩)⟩

theorem MapAt.new {o : Obj} (ho : o = .map #[] 0) (hw : Sat R (pts m o :: Hs) w) : Sat R (MapAt (α := α) m [] :: Hs) w := by
  subst ho
  exact MapAt.iff.2 ⟨[], 0, rfl, ⟨fun _ h => (by cases h), List.nodup_nil⟩, hw⟩

/-! ### Getting and setting, by where the key is -/
section
variable {β : Type}
omit [KeyK α] in
theorem getM_app {k : α} {v : β} : ∀ {a b : List (α × β)}, getM k a = none → (k == k) = true → getM k (a ++ (k, v) :: b) = some v
  | [], b, _, hk => by simp [getM, hk]
  | e :: a, b, h, hk => by
    rw [getM] at h
    split at h
    · cases h
    · rename_i hne
      rw [List.cons_append, getM, if_neg hne]
      exact getM_app h hk
omit [KeyK α] in
theorem setM_app {k : α} {v v' : β} : ∀ {a b : List (α × β)}, getM k a = none → (k == k) = true → setM k v' (a ++ (k, v) :: b) = a ++ (k, v') :: b
  | [], b, _, hk => by simp [setM, hk]
  | e :: a, b, h, hk => by
    rw [getM] at h
    split at h
    · cases h
    · rename_i hne
      rw [List.cons_append, setM, if_neg hne, setM_app h hk]; rfl
omit [KeyK α] in
theorem delM_app {k : α} {v : β} : ∀ {a b : List (α × β)}, getM k a = none → (k == k) = true → delM k (a ++ (k, v) :: b) = a ++ b
  | [], b, _, hk => by simp [delM, hk]
  | e :: a, b, h, hk => by
    rw [getM] at h
    split at h
    · cases h
    · rename_i hne
      rw [List.cons_append, delM, if_neg hne, delM_app h hk]; rfl
theorem getM_split {k : α} {v : β} : ∀ {l : List (α × β)}, getM k l = some v → ∃ a b, l = a ++ (k, v) :: b ∧ getM k a = none
  | [], h => by cases h
  | e :: l, h => by
    rw [getM] at h
    split at h
    · rename_i hk
      cases h
      have := KeyK.eq _ _ hk
      subst this
      exact ⟨[], l, rfl, rfl⟩
    · rename_i hne
      obtain ⟨a, b, rfl, ha⟩ := getM_split h
      exact ⟨e :: a, b, rfl, by rw [getM, if_neg hne]; exact ha⟩
omit [KeyK α] in
theorem getM_map {γ : Type} (f : β → γ) (k : α) : ∀ l : List (α × β), getM k (l.map fun e => (e.1, f e.2)) = (getM k l).map f
  | [] => rfl
  | e :: l => by
    rw [List.map_cons, getM, getM, getM_map f k l]
    split <;> rfl
end

end Go.VC
