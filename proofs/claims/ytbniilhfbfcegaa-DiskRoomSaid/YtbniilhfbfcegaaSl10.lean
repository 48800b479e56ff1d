/- SL, part 10: slices whose elements are structs of n cells: one's own, or only read; elements, stores, append. No condition but bounds on lengths. -/
import Derived.Test.YtbniilhfbfcegaaSl9
namespace Go.VC
open Go Go.RowKit

variable {P : Program} {R : Cx} {Hs Rest : List HP} {w : World} {s : Sl} {T : TypeId} {n : Nat}

/-! ### Rows -/

def Wid (n : Nat) (rows : List (List Value)) : Prop := ∀ x ∈ rows, x.length = n

theorem Wid.nil {n : Nat} : Wid n [] := fun _ h => by cases h
theorem Wid.app {n : Nat} {a b : List (List Value)} (ha : Wid n a) (hb : Wid n b) : Wid n (a ++ b) := fun x hx => (List.mem_append.1 hx).elim (ha x) (hb x)
theorem Wid.one {n : Nat} {x : List Value} (h : x.length = n) : Wid n [x] := fun y hy => by simp at hy; rw [hy]; exact h
theorem Wid.len {n : Nat} : ∀ {rows : List (List Value)}, Wid n rows → rows.flatten.length = rows.length * n
  | [], _ => by simp
  | x :: rows, h => by
    rw [List.flatten_cons, List.length_append, h x List.mem_cons_self, Wid.len (rows := rows) (fun y hy => h y (List.mem_cons_of_mem _ hy)), List.length_cons, Nat.add_mul]
    omega
theorem Wid.drop_flat {n : Nat} : ∀ {rows : List (List Value)} (k : Nat), Wid n rows → rows.flatten.drop (k * n) = (rows.drop k).flatten
  | rows, 0, _ => by simp
  | [], k + 1, _ => by simp
  | x :: rows, k + 1, h => by
    have hx := h x List.mem_cons_self
    rw [List.flatten_cons, List.drop_succ_cons, ← Wid.drop_flat (rows := rows) k (fun y hy => h y (List.mem_cons_of_mem _ hy)), List.drop_append]
    have e1 : x.drop ((k + 1) * n) = [] := List.drop_eq_nil_of_le (by rw [hx, Nat.add_mul]; omega)
    have e2 : (k + 1) * n - x.length = k * n := by rw [hx, Nat.add_mul]; omega
    rw [e1, e2, List.nil_append]
theorem Wid.take_flat {n : Nat} {rows : List (List Value)} (k : Nat) (h : Wid n rows) : rows.flatten.take (k * n) = (rows.take k).flatten := by
  by_cases hk : k ≤ rows.length
  · have e : rows.flatten = (rows.take k).flatten ++ (rows.drop k).flatten := by rw [← List.flatten_append, List.take_append_drop]
    rw [e, List.take_left']
    rw [Wid.len (fun x hx => h x (List.mem_of_mem_take hx)), List.length_take, Nat.min_eq_left hk]
  · rw [List.take_of_length_le (by rw [h.len]; exact Nat.mul_le_mul_right _ (by omega)), List.take_of_length_le (by omega)]
theorem Wid.take {n k : Nat} {rows : List (List Value)} (h : Wid n rows) : Wid n (rows.take k) := fun x hx => h x (List.mem_of_mem_take hx)
theorem Wid.drop {n k : Nat} {rows : List (List Value)} (h : Wid n rows) : Wid n (rows.drop k) := fun x hx => h x (List.mem_of_mem_drop hx)
theorem Wid.set {n k : Nat} {rows : List (List Value)} {x : List Value} (h : Wid n rows) (hx : x.length = n) : Wid n (rows.set k x) := fun y hy => by
  rcases List.mem_or_eq_of_mem_set hy with hy | rfl
  · exact h y hy
  · exact hx

theorem Pre.app : ∀ {vs a : List Value} (b : List Value), Pre vs a → Pre vs (a ++ b)
  | [], _, _, _ => trivial
  | _ :: _, _ :: _, b, h => ⟨h.1, Pre.app b h.2⟩
  | _ :: _, [], _, h => h.elim

theorem Pre.len : ∀ {vs a : List Value}, Pre vs a → vs.length ≤ a.length
  | [], _, _ => Nat.zero_le _
  | _ :: _, _ :: _, h => by simp only [List.length_cons]; exact Nat.succ_le_succ (Pre.len h.2)
  | _ :: _, [], h => h.elim

theorem Wid.pre {n k j : Nat} {rows : List (List Value)} (rest : List Value) (h : Wid n rows) (hk : k < rows.length) {vs : List Value} (hp : Pre vs (rows[k].drop j)) : Pre vs ((rows.flatten ++ rest).drop (k * n + j)) := by
  cases vs with
  | nil => trivial
  | cons v vs =>
    have hj : j < rows[k].length := by
      have := Pre.len hp; simp only [List.length_cons, List.length_drop] at this; omega
    have hx : rows[k].length = n := h _ (List.getElem_mem _)
    have hle : k * n + j ≤ rows.flatten.length := by
      rw [h.len]
      have : (k + 1) * n ≤ rows.length * n := Nat.mul_le_mul_right _ (by omega)
      rw [Nat.add_mul] at this
      omega
    rw [List.drop_append_of_le_length hle, Nat.add_comm (k * n) j, ← List.drop_drop]
    rw [Nat.add_comm] at hle
    rw [List.drop_drop, Nat.add_comm j, ← List.drop_drop, h.drop_flat, List.drop_eq_getElem_cons hk, List.flatten_cons, List.drop_append_of_le_length (by omega), List.append_assoc]
    exact hp.app _

theorem set_flat {n : Nat} : ∀ {rows : List (List Value)} {k j : Nat} (v : Value), Wid n rows → (hk : k < rows.length) → j < n → rows.flatten.set (k * n + j) v = (rows.set k (rows[k].set j v)).flatten
  | [], k, j, v, _, hk, _ => by simp at hk
  | x :: rows, 0, j, v, h, _, hj => by
    have hx := h x List.mem_cons_self
    simp only [Nat.zero_mul, Nat.zero_add, List.flatten_cons, List.getElem_cons_zero, List.set_cons_zero]
    rw [List.set_append_left _ _ (by omega)]
  | x :: rows, k + 1, j, v, h, hk, hj => by
    have hx := h x List.mem_cons_self
    have hk' : k < rows.length := by simpa using hk
    simp only [List.flatten_cons, List.getElem_cons_succ, List.set_cons_succ]
    rw [List.set_append_right _ _ (by rw [hx, Nat.add_mul]; omega)]
    have e : (k + 1) * n + j - x.length = k * n + j := by rw [hx, Nat.add_mul]; omega
    rw [e, set_flat v (fun y hy => h y (List.mem_cons_of_mem _ hy)) hk' hj]

theorem putL_flat {n : Nat} {rest : List Value} : ∀ (vs : List Value) {rows : List (List Value)} {k j : Nat}, Wid n rows → (hk : k < rows.length) → j + vs.length ≤ n →
    putL (rows.flatten ++ rest) (k * n + j) vs = (rows.set k (putL rows[k] j vs)).flatten ++ rest
  | [], rows, k, j, _, hk, _ => by simp [putL]
  | v :: vs, rows, k, j, h, hk, hj => by
    simp only [List.length_cons] at hj
    have hb : k * n + j < rows.flatten.length := by
      rw [h.len]
      have : (k + 1) * n ≤ rows.length * n := Nat.mul_le_mul_right _ (by omega)
      rw [Nat.add_mul] at this
      omega
    rw [putL, List.set_append_left _ _ hb, set_flat v h hk (by omega), Nat.add_assoc, putL_flat vs (h.set (by rw [List.length_set]; exact h _ (List.getElem_mem _))) (by simpa using hk) (by omega)]
    simp [putL]

/-! ### One's own -/

def OwnN (n : Nat) (s : Sl) (T : TypeId) (rows : List (List Value)) : HP := fun h =>
  Wid n rows ∧ ((s = ⟨none, 0, 0⟩ ∧ rows = [] ∧ h = Heap.none) ∨
    ∃ b rest fr cap, s = ⟨some ⟨b, 0, none⟩, rows.length, cap⟩ ∧ (rows.flatten ++ rest).length = cap * n ∧ okFr (cap * n) fr ∧ h = Heap.one b (.cells (rows.flatten ++ rest).toArray T fr))

theorem OwnN.nil (h : Sat R Hs w) : Sat R (OwnN n ⟨none, 0, 0⟩ T [] :: Hs) w :=
  ⟨Heap.none, ⟨Wid.nil, .inl ⟨rfl, rfl, rfl⟩⟩, fun i hi => absurd rfl hi, by rw [Cx.add_none]; exact h⟩

theorem OwnN.of_pts {b cap : Nat} {fr : Nat × Nat} {rows : List (List Value)} {rest : List Value} (hwid : Wid n rows) (hl : (rows.flatten ++ rest).length = cap * n) (h : Sat R (pts b (.cells (rows.flatten ++ rest).toArray T fr) :: Hs) w)
    (hf : okFr (cap * n) fr := by first | assumption | exact Or.inl rfl) : Sat R (OwnN n ⟨some ⟨b, 0, none⟩, rows.length, cap⟩ T rows :: Hs) w :=
  let ⟨a, ha, hd, hs⟩ := h; ⟨a, ⟨hwid, .inr ⟨b, rest, fr, cap, rfl, hl, hf, ha⟩⟩, hd, hs⟩

theorem OwnN.cases {rows : List (List Value)} (h : Sat R (OwnN n s T rows :: Hs) w) : Wid n rows ∧
    ((s = ⟨none, 0, 0⟩ ∧ rows = [] ∧ Sat R Hs w) ∨ ∃ b rest fr cap, s = ⟨some ⟨b, 0, none⟩, rows.length, cap⟩ ∧ (rows.flatten ++ rest).length = cap * n ∧ okFr (cap * n) fr ∧ Sat R (pts b (.cells (rows.flatten ++ rest).toArray T fr) :: Hs) w) := by
  obtain ⟨a, ⟨hwid, ha⟩, hd, hs⟩ := h
  refine ⟨hwid, ?_⟩
  rcases ha with ⟨h1, h2, rfl⟩ | ⟨b, rest, fr, cap, h1, h3, hf, rfl⟩
  · rw [Cx.add_none] at hs; exact .inl ⟨h1, h2, hs⟩
  · exact .inr ⟨b, rest, fr, cap, h1, h3, hf, _, rfl, hd, hs⟩

theorem OwnN.wid {rows : List (List Value)} (h : Sat R (OwnN n s T rows :: Hs) w) : Wid n rows := (OwnN.cases h).1
theorem OwnN.len {rows : List (List Value)} (h : Sat R (OwnN n s T rows :: Hs) w) : s.len = rows.length := by
  rcases (OwnN.cases h).2 with ⟨rfl, rfl, _⟩ | ⟨b, rest, fr, cap, rfl, _, _⟩ <;> rfl
theorem OwnN.cap {rows : List (List Value)} (hn : 0 < n) (h : Sat R (OwnN n s T rows :: Hs) w) : s.len ≤ s.cap := by
  have hwid := (OwnN.cases h).1
  rcases (OwnN.cases h).2 with ⟨rfl, rfl, _⟩ | ⟨b, rest, fr, cap, rfl, hl, _⟩
  · exact Nat.le_refl _
  · rw [List.length_append, hwid.len] at hl
    simp only
    have : rows.length * n ≤ cap * n := by omega
    exact Nat.le_of_mul_le_mul_right this hn

/-- The slice's elements are there, to be read: in whatever worlds. -/
def ReadsN (n : Nat) (s : Sl) (rows : List (List Value)) (S : World → Prop) : Prop :=
  s.len = rows.length ∧ ∀ k (hk : k < rows.length), ∃ b off, s.a = some ⟨b, off, none⟩ ∧ ∀ j vs, Pre vs (rows[k].drop j) → At S ⟨b, off + (k * n + j), none⟩ vs

theorem OwnN.reads {rows : List (List Value)} (hw : Sat R (OwnN n s T rows :: Hs) w) {S : World → Prop} {Hs'} (hS : ∀ w, S w → Sat R (OwnN n s T rows :: Hs') w) : ReadsN n s rows S := by
  refine ⟨OwnN.len hw, fun k hk => ?_⟩
  obtain ⟨hwid, ⟨_, rfl, _⟩ | ⟨b, rest, fr, cap, rfl, hl, _, _⟩⟩ := OwnN.cases hw
  · simp at hk
  · refine ⟨b, 0, rfl, fun j vs hp w hw i v hv => ?_⟩
    obtain ⟨_, ⟨h0, _, _⟩ | ⟨b', rest', fr', cap', he, _, _, h⟩⟩ := OwnN.cases (hS w hw)
    · cases h0
    · simp only [Sl.mk.injEq, Option.some.injEq, Addr.mk.injEq, and_true] at he
      obtain ⟨rfl, _⟩ := he
      have := (Wid.pre rest' hwid hk hp).get i v hv
      rw [List.getElem?_drop] at this
      rw [add_off, Nat.zero_add, cell_of h.at, this]

theorem Take.sat {A : HP} (h : Sat R Hs w) (t : Take A Hs Rest) : Sat R (A :: Rest) w := h.perm t.perm

theorem OwnN.readsT {rows : List (List Value)} {S : World → Prop} {Hs' : List HP} (hw : Sat R Hs w) (t : Take (OwnN n s T rows) Hs Rest) {Rest' : List HP} (hS : ∀ w, S w → Sat R Hs' w) (t' : Take (OwnN n s T rows) Hs' Rest') : ReadsN n s rows S :=
  OwnN.reads (hw.perm t.perm) fun w h => (hS w h).perm t'.perm

/-- The index is in range. -/
theorem ReadsN.rng {S : World → Prop} {rows : List (List Value)} (h : ReadsN n s rows S) {k : Nat} (hk : k < rows.length) {F : Addr → Prop} (f : ∀ b off, s.a = some ⟨b, off, none⟩ → (∀ j vs, Pre vs (rows[k].drop j) → At S ⟨b, off + (k * n + j), none⟩ vs) → F ⟨b, off, none⟩) :
    Rng (k : Int) s.len (NilP s.a F) := by
  obtain ⟨b, off, ha, hat⟩ := h.2 k hk
  have := h.1
  exact Rng.mk (by omega) (by omega) (NilP.mk ha (f b off ha hat))

theorem elt_addr (b off k n j : Nat) : (⟨(Addr.add ⟨b, off, none⟩ (mulS k n)).block, (Addr.add ⟨b, off, none⟩ (mulS k n)).off + j, none⟩ : Addr) = ⟨b, off + (k * n + j), none⟩ := by
  rw [add_off, mulS_eq]; simp only [Addr.mk.injEq, and_true, true_and]; omega
theorem elt_addr0 (b off k n : Nat) : Addr.add ⟨b, off, none⟩ (mulS k n) = ⟨b, off + (k * n + 0), none⟩ := by
  rw [add_off, mulS_eq]; rfl

/-- A store into an element. -/
theorem OwnN.store {rows : List (List Value)} {t : TypeId} {v : Value} {k j : Nat} {b off : Nat} {K : World → Prop} (hw : Sat R (OwnN n s T rows :: Hs) w) (ha : s.a = some ⟨b, off, none⟩) (hsz : (P.info? t).map (·.size) = some v.cells.toList.length) (h1 : oneAll v.cells.toList = true)
    (hk : k < rows.length) (hj : j + v.cells.toList.length ≤ n) (h : ∀ w', Sat R (OwnN n s T (rows.set k (putL rows[k] j v.cells.toList)) :: Hs) w' → K w') :
    ∃ w', (Instr.storeAt t (.pointer (some ⟨b, off + (k * n + j), none⟩)) v).run P w = .ok () w' ∧ K w' := by
  obtain ⟨hwid, ⟨rfl, _, _⟩ | ⟨b', rest, fr, cap, rfl, hl, hf, hp⟩⟩ := OwnN.cases hw
  · cases ha
  · simp only [Option.some.injEq, Addr.mk.injEq, and_true] at ha
    obtain ⟨rfl, rfl⟩ := ha
    have hlt : (k + 1) * n ≤ rows.length * n := Nat.mul_le_mul_right _ (by omega)
    rw [Nat.add_mul] at hlt
    have hll := hl
    rw [List.length_append, hwid.len] at hll
    rw [Nat.zero_add]
    refine store_rule hp hsz h1 (by rw [List.length_append, hwid.len]; omega) (fun w' h2 => h w' ?_) (by rw [hl]; exact hf)
    rw [putL_flat _ hwid hk hj] at h2
    have hl2 : (putL rows[k] j v.cells.toList).length = n := by rw [putL_len]; exact hwid _ (List.getElem_mem _)
    have := OwnN.of_pts (cap := cap) (hwid.set hl2) (by rw [← hl, List.length_append, List.length_append, (hwid.set hl2).len, List.length_set, hwid.len]) h2
    rw [List.length_set] at this
    exact this

/-! ### Only read -/

structure RoN (n : Nat) (R : Cx) (s : Sl) (rows : List (List Value)) : Prop where
  wid : Wid n rows
  len : s.len = rows.length
  mem : rows ≠ [] → ∃ b off l T fr, s.a = some ⟨b, off, none⟩ ∧ R.m b = some (.cells l T fr) ∧ ∀ (i : Nat) v, rows.flatten[i]? = some v → l[off + i]? = some v

theorem RoN.add {h : Heap} {rows : List (List Value)} (hr : RoN n R s rows) : RoN n (R.add h) s rows :=
  ⟨hr.wid, hr.len, fun hx => let ⟨b, off, l, T, fr, ha, hb, hl⟩ := hr.mem hx; ⟨b, off, l, T, fr, ha, Cx.kept hb, hl⟩⟩

theorem RoN.reads {rows : List (List Value)} (hr : RoN n R s rows) {S : World → Prop} {Hs'} (hS : ∀ w, S w → Sat R Hs' w) : ReadsN n s rows S := by
  refine ⟨hr.len, fun k hk => ?_⟩
  obtain ⟨b, off, l, T, fr, ha, hb, hl⟩ := hr.mem (fun h => by rw [h] at hk; simp at hk)
  refine ⟨b, off, ha, fun j vs hp w hw i v hv => ?_⟩
  have h1 := (Wid.pre [] hr.wid hk hp).get i v hv
  rw [List.append_nil, List.getElem?_drop] at h1
  have := (hS w hw).of_ro hb
  rw [add_off]
  simp only [World.cell?, this, Option.isSome_none, Bool.false_eq_true, if_false]
  rw [Nat.add_assoc]
  exact hl _ _ h1

/-- It may be lent out to those who only read. -/
theorem OwnN.lend {rows : List (List Value)} (h : Sat R (OwnN n s T rows :: Hs) w) :
    ∃ R' : Cx, RoN n R' s rows ∧ (∃ x, R' = R.add x) ∧ Sat R' Hs w ∧ ∀ {Hs' w'}, Sat R' Hs' w' → Sat R (OwnN n s T rows :: Hs') w' := by
  obtain ⟨hwid, ⟨rfl, rfl, h2⟩ | ⟨b, rest, fr, cap, rfl, hl, hf, h2⟩⟩ := OwnN.cases h
  · exact ⟨R, ⟨hwid, rfl, fun h => absurd rfl h⟩, ⟨Heap.none, (Cx.add_none R).symm⟩, h2, fun h => OwnN.nil h⟩
  · obtain ⟨hn, h3⟩ := Sat.lend.1 h2
    refine ⟨_, ⟨hwid, rfl, fun _ => ⟨b, 0, _, T, fr, rfl, Cx.lent hn, fun i v hv => ?_⟩⟩, ⟨_, rfl⟩, h3, fun h => OwnN.of_pts hwid hl (Sat.lend.2 ⟨hn, h⟩)⟩
    obtain ⟨hi, rfl⟩ := List.getElem?_eq_some_iff.1 hv
    simp [List.getElem?_append_left hi]

/-- A part of it: 's[l:h]'. -/
theorem RoN.sub {rows : List (List Value)} (hr : RoN n R s rows) {l h m : Nat} (hlh : l ≤ h) (hh : h ≤ rows.length) (hm : m = l → h = l) : RoN n R ⟨cutA s.a l m n, h - l, m - l⟩ ((rows.take h).drop l) := by
  have hwid : Wid n ((rows.take h).drop l) := hr.wid.take.drop
  refine ⟨hwid, by simp; omega, fun hne => ?_⟩
  have hlt : l < h := by
    have : 0 < ((rows.take h).drop l).length := List.length_pos_iff.2 hne
    simp at this; omega
  obtain ⟨b, off, ls, T, fr, ha, hb, hl⟩ := hr.mem (fun h0 => by rw [h0] at hh; simp at hh; omega)
  refine ⟨b, off + l * n, ls, T, fr, ?_, hb, fun i v hv => ?_⟩
  · unfold cutA
    rw [if_neg (fun e => by have := hm e; omega), ha]
    simp [add_off]
  · rw [Nat.add_assoc]
    refine hl _ _ ?_
    have e1 : ((rows.take h).drop l).flatten = (rows.flatten.take (h * n)).drop (l * n) := by
      rw [hr.wid.take_flat, hr.wid.take.drop_flat]
    rw [e1, List.getElem?_drop] at hv
    rw [List.getElem?_take] at hv
    split at hv
    · exact hv
    · cases hv

theorem RoN.take {rows : List (List Value)} (hr : RoN n R s rows) {h : Nat} (hh : h ≤ rows.length) (c : Nat) : RoN n R ⟨s.a, h, c⟩ (rows.take h) :=
  ⟨hr.wid.take, by simp; omega, fun hne => by
    obtain ⟨b, off, ls, T, fr, ha, hb, hl⟩ := hr.mem (fun h0 => hne (by rw [h0]; simp))
    refine ⟨b, off, ls, T, fr, ha, hb, fun i v hv => hl _ _ ?_⟩
    rw [← hr.wid.take_flat, List.getElem?_take] at hv
    split at hv
    · exact hv
    · cases hv⟩

/-! ### Append -/

def elBN (P : Program) (T : TypeId) (n bytes : Nat) : Bool :=
  match P.info? T with
  | some i => match i.zero with
    | some z => i.size == n && i.bytes == bytes && z.cells.size == n
    | none => false
  | none => false

structure ElN (P : Program) (t1 t2 T : TypeId) (n bytes : Nat) : Prop where
  ht : P.underlying t1 = some (.slice T)
  hk : ∃ e', P.underlying t2 = some (.slice e')
  hi : elBN P T n bytes = true

theorem elBN_out {P : Program} {T : TypeId} {n bytes : Nat} (h : elBN P T n bytes = true) : ∃ i z, P.info? T = some i ∧ i.zero = some z ∧ i.size = n ∧ i.bytes = bytes ∧ z.cells.size = n := by
  unfold elBN at h
  split at h
  · rename_i i hi
    split at h
    · rename_i z hz
      simp only [Bool.and_eq_true, beq_iff_eq] at h
      exact ⟨i, z, hi, hz, h.1.1, h.1.2, h.2⟩
    · cases h
  · cases h

theorem appendN_rule {t1 t2 ty : TypeId} {bytes : Nat} (E : ElN P t1 t2 T n bytes) {rows ys : List (List Value)} {src : Value} {K : Sl → World → Prop}
    (hw : Sat R (OwnN n s T rows :: Hs) w) (hs : Src P n t2 src ys.length ys.flatten w) (hy : Wid n ys) (hb : 2 * (rows.length + ys.length) * bytes ≤ 281474976710656) (hb' : rows.length + ys.length ≤ 9223372036854775807)
    (k : ∀ s' w', Sat R (OwnN n s' T (rows ++ ys) :: Hs) w' → K s' w') :
    ∃ w', ∃ t : Sl, (Builtin.append_ #[t1, t2] ty #[.slice s.a s.len s.cap, src]).run P w = .ok (.slice t.a t.len t.cap) w' ∧ K t w' := by
  obtain ⟨i, z, hi, hz, hsize, hbytes, hzc⟩ := elBN_out E.hi
  have hs' : Src P i.size t2 src ys.length ys.flatten w := by rw [hsize]; exact hs
  have hlen := OwnN.len hw
  have hwid := OwnN.wid hw
  have hwid2 := hwid.app hy
  generalize hcn : ys.length = c at *
  have fit : ∀ cap, cap < rows.length + c → Builtin.nextslicecap (rows.length + c) cap * i.bytes ≤ 281474976710656 := fun cap hc => by
    have h2 : Builtin.nextslicecap (rows.length + c) cap ≤ 2 * (rows.length + c) := by
      unfold Builtin.nextslicecap
      split
      · omega
      · split
        · omega
        · have := nextslicecap_le_wide hc
          unfold Builtin.nextslicecap at this
          rw [if_neg (by assumption), if_neg (by assumption)] at this
          omega
    rw [hbytes]
    exact Nat.le_trans (Nat.mul_le_mul_right _ h2) hb
  -- a new row
  have grow : ∀ (base : Option Addr) (cap : Nat), cap < rows.length + c → (Builtin.firstCells i.size rows.length (.slice base rows.length cap)).run P w.drew = .ok rows.flatten.toArray w.drew → Sat R Hs w →
      ∃ w', ∃ t : Sl, (Builtin.append_ #[t1, t2] ty #[.slice base rows.length cap, src]).run P w = .ok (.slice t.a t.len t.cap) w' ∧ K t w' := fun base cap hc hold hw => by
    have hr := run_append_grow_src w t1 t2 ty T i z E.ht hi hz base rows.length cap rows.flatten hold src c ys.flatten hs' hc (by omega) (fit cap hc)
    refine ⟨_, ⟨some ⟨w.heap.size, 0, none⟩, rows.length + c, grownCap w (rows.length + c) cap T⟩, hr, k _ _ ?_⟩
    have hz0 : (Builtin.zeroCells z.cells (grownCap w (rows.length + c) cap T - (rows.length + c))).size = (grownCap w (rows.length + c) cap T - (rows.length + c)) * n := by
      simp [Builtin.zeroCells, hzc]
    have hg := grownCap_ge w (rows.length + c) cap T
    generalize hG : grownCap w (rows.length + c) cap T = G at *
    have ho' : Obj.cells ((rows.flatten ++ ys.flatten).toArray ++ Builtin.zeroCells z.cells (G - (rows.length + c))) T = .cells ((rows ++ ys).flatten ++ (Builtin.zeroCells z.cells (G - (rows.length + c))).toList).toArray T (0, 0) := by
      congr 1
      apply Array.ext'; simp
    have := Sat.alloc (Obj.cells ((rows.flatten ++ ys.flatten).toArray ++ Builtin.zeroCells z.cells (G - (rows.length + c))) T) (Sat.drew hw)
    rw [ho'] at this ⊢
    have hlenG : ((rows ++ ys).flatten ++ (Builtin.zeroCells z.cells (G - (rows.length + c))).toList).length = G * n := by
      have hz1 : (Builtin.zeroCells z.cells (G - (rows.length + c))).toList.length = (G - (rows.length + c)) * n := by rw [Array.length_toList]; exact hz0
      rw [List.length_append, hz1, hwid2.len, List.length_append, hcn, ← Nat.add_mul]
      congr 1; omega
    have h3 := OwnN.of_pts (cap := G) hwid2 hlenG this
    have e : (⟨some ⟨w.drew.heap.size, 0, none⟩, (rows ++ ys).length, G⟩ : Sl) = ⟨some ⟨w.heap.size, 0, none⟩, rows.length + c, G⟩ := by
      simp only [List.length_append, World.size_drew, hcn]
    rw [e] at h3
    exact h3
  obtain ⟨_, ⟨rfl, rfl, hz2⟩ | ⟨b, rest, fr, cap, rfl, hl, hfr, hp⟩⟩ := OwnN.cases hw
  · by_cases hn0 : c = 0
    · subst hn0
      have hy0 : ys = [] := List.length_eq_zero_iff.1 hcn
      subst hy0
      obtain ⟨e', he'⟩ := E.hk
      refine ⟨w, ⟨none, 0, 0⟩, ?_, k _ _ (by simpa using OwnN.nil hz2)⟩
      have hcz := hs'.cells
      simp [Builtin.append_, run_underlying E.ht, run_underlying he', sizeOf, typeInfo, hi, hs'.len, hcz]
    · exact grow none 0 (by simp; omega) (run_firstCells_none w.drew i.size 0 0 0) hz2
  · have hl0 := hl
    rw [List.length_append, hwid.len] at hl
    by_cases hroom : rows.length + c ≤ cap
    · have hat := hp.at
      have hcapn : (rows.length + c) * n ≤ cap * n := Nat.mul_le_mul_right _ hroom
      rw [Nat.add_mul] at hcapn
      have hyl : ys.flatten.length = c * n := by rw [hy.len, hcn]
      have hr := run_append_room_src w t1 t2 ty T i E.ht hi b 0 rows.length cap src c ys.flatten hs' hroom
        (fun j hj => by
          rw [cell_of hat, hsize, List.getElem?_eq_getElem (by rw [hl0]; omega)]; rfl) (fun j hj => frozen_no hat hfr (by rw [hsize]; omega))
      refine ⟨_, ⟨some ⟨b, 0, none⟩, rows.length + c, cap⟩, hr, k _ _ ?_⟩
      have h2 := setCells_sat ys.flatten (rows.flatten ++ rest) (rows.length * n) w hp
      have e1 : putL (rows.flatten ++ rest) (rows.length * n) ys.flatten = (rows ++ ys).flatten ++ rest.drop (c * n) := by
        rw [putL_eq _ _ _ (by rw [hyl, hl0]; omega), List.take_left' hwid.len, hyl, ← List.drop_drop, List.drop_left' hwid.len]
        simp
      rw [e1] at h2
      rw [hsize, Nat.zero_add]
      have h3 := OwnN.of_pts (cap := cap) hwid2 (by rw [List.length_append, hwid2.len, List.length_append, hcn, List.length_drop, Nat.add_mul]; omega) h2
      rw [List.length_append, hcn] at h3
      exact h3
    · have hat := hp.at
      refine grow (some ⟨b, 0, none⟩) cap (by omega) ?_ hp.drop
      refine run_firstCells_some w.drew i.size rows.length ⟨b, 0, none⟩ rows.length _ rows.flatten (by rw [hsize, hwid.len]) ?_
      intro j u hj
      rw [World.cell?_drew, add_off, cell_of hat, Nat.zero_add]
      obtain ⟨hlt, rfl⟩ := List.getElem?_eq_some_iff.1 hj
      simp [List.getElem?_append_left hlt]

/-- The source of 'append(s, x)': the cells that were made for it. -/
theorem SrcN_one {t2 : TypeId} (hk : ∃ e', P.underlying t2 = some (.slice e')) {b : Nat} {x : List Value} {fr : Nat × Nat} (c : Nat)
    (hw : Sat R Hs w) [t : TakeP b Hs (.cells x.toArray T fr) Rest] (hx : x.length = n) (h1 : oneAll x = true) : Src P n t2 (.slice (some ⟨b, 0, none⟩) 1 c) [x].length [x].flatten w := by
  obtain ⟨e', he'⟩ := hk
  refine Go.Src.ofSlice w he' _ 1 c _ (by simp [hx]) ?_ ?_
  · intro j u hj
    have := hw.look b
    rw [add_off, cell_of this]; simpa using hj
  · intro u hu; simp at hu; exact List.all_eq_true.1 h1 u hu

/-- What is appended: a slice that is only read. -/
theorem srcRoN {t2 : TypeId} (ht : ∃ e', P.underlying t2 = some (.slice e')) {rows : List (List Value)} (hw : Sat R Hs w) (hs : RoN n R s rows) (h1 : oneAll rows.flatten = true) : Src P n t2 (.slice s.a s.len s.cap) rows.length rows.flatten w := by
  obtain ⟨e', ht⟩ := ht
  have hl : s.len = rows.length := hs.len
  by_cases hx : rows = []
  · subst hx
    obtain ⟨a, n, c⟩ := s
    simp only [List.length_nil] at hl
    subst hl
    cases a with
    | none => exact Go.Src.ofNil _ ht _
    | some a => exact Go.Src.ofSlice w ht _ 0 _ [] (by simp) (fun j u hj => by simp at hj) (fun u hu => by cases hu)
  · obtain ⟨b, off, l, T, fr, ha, hb, hel⟩ := hs.mem hx
    obtain ⟨a, n, c⟩ := s
    simp only at ha hl
    subst ha hl
    refine Go.Src.ofSlice w ht _ _ _ _ (by rw [hs.wid.len]) (fun j u hj => ?_) (fun u hu => List.all_eq_true.1 h1 u hu)
    rw [add_off]
    have := hw.of_ro hb
    simp only [World.cell?, this, Option.isSome_none, Bool.false_eq_true, if_false]
    exact hel j u hj

/-- 'append(s, x)'. -/
theorem pushN_rule {t1 t2 ty T' : TypeId} {bytes : Nat} (E : ElN P t1 t2 T n bytes) {rows : List (List Value)} {x : List Value} {K : Sl → World → Prop}
    (hw : Sat R (OwnN n s T rows :: Hs) w) (hx : x.length = n) (h1 : oneAll x = true) (hb : 2 * (rows.length + 1) * bytes ≤ 281474976710656) (hb' : rows.length + 1 ≤ 9223372036854775807)
    (k : ∀ s' w', Sat R (OwnN n s' T (rows ++ [x]) :: Hs) w' → K s' w') :
    New (.cells x.toArray T' (0, 0)) (fun b w => ∃ w', ∃ t : Sl, (Builtin.append_ #[t1, t2] ty #[.slice s.a s.len s.cap, .slice (some ⟨b, 0, none⟩) 1 1]).run P w = .ok (.slice t.a t.len t.cap) w' ∧ K t w') w := by
  refine new_rule hw fun b w hw => ?_
  have hw : Sat R (pts b (.cells x.toArray T' (0, 0)) :: OwnN n s T rows :: Hs) w := hw
  exact appendN_rule E hw.swap (SrcN_one E.hk 1 hw hx h1) (Wid.one hx) hb hb' fun s' w' h => k s' w' h.swap.drop

/-- A new array with no element. -/
theorem OwnN.empty {b : Nat} {fr : Nat × Nat} (h : Sat R (pts b (.cells #[] T fr) :: Hs) w) : Sat R (OwnN n ⟨some ⟨b, 0, none⟩, 0, 0⟩ T [] :: Hs) w :=
  OwnN.of_pts (rows := []) (rest := []) (cap := 0) Wid.nil (by simp) h (.inr (by simp))

/-- 'append([]T{}, ..)'. -/
theorem appendN0_rule {t1 t2 ty : TypeId} {bytes b : Nat} {fr : Nat × Nat} (E : ElN P t1 t2 T n bytes) {ys : List (List Value)} {src : Value} {K : Sl → World → Prop}
    (hw : Sat R Hs w) [tk : TakeP b Hs (.cells ([] : List Value).toArray T fr) Rest] (hs : Src P n t2 src ys.length ys.flatten w) (hy : Wid n ys) (hb : 2 * ys.length * bytes ≤ 281474976710656) (hb' : ys.length ≤ 9223372036854775807)
    (k : ∀ s' w', Sat R (OwnN n s' T ys :: Rest) w' → K s' w') :
    ∃ w', ∃ t : Sl, (Builtin.append_ #[t1, t2] ty #[.slice (some ⟨b, 0, none⟩) 0 0, src]).run P w = .ok (.slice t.a t.len t.cap) w' ∧ K t w' := by
  have h2 := appendN_rule (ty := ty) (s := ⟨some ⟨b, 0, none⟩, 0, 0⟩) (K := K) E (OwnN.empty (hw.takeP tk)) hs hy (by simpa using hb) (by simpa using hb') (by simpa using k)
  exact h2
theorem append0_rule {t1 t2 ty : TypeId} {bytes b : Nat} {fr : Nat × Nat} (E : El P t1 t2 T bytes) {ys : List Value} {src : Value} {m : Nat} {K : Sl → World → Prop}
    (hw : Sat R Hs w) [tk : TakeP b Hs (.cells ([] : List Value).toArray T fr) Rest] (hs : Src P 1 t2 src m ys w) (hb : 2 * m * bytes ≤ 281474976710656) (hb' : m ≤ 9223372036854775807)
    (k : ∀ s' w', Sat R (Own s' T ys :: Rest) w' → K s' w') :
    ∃ w', ∃ t : Sl, (Builtin.append_ #[t1, t2] ty #[.slice (some ⟨b, 0, none⟩) 0 0, src]).run P w = .ok (.slice t.a t.len t.cap) w' ∧ K t w' := by
  have h0 : Sat R (Own ⟨some ⟨b, 0, none⟩, 0, 0⟩ T [] :: Rest) w := Own.of_pts (xs := []) (rest := []) (hw.takeP tk) (.inr (by simp))
  have h2 := append_rule (ty := ty) (s := ⟨some ⟨b, 0, none⟩, 0, 0⟩) (K := K) E h0 hs rfl (by simpa using hb) (by simpa using hb') (by simpa using k)
  exact h2

/-! ### Elements as the formulas ask for them -/

structure Elt (n : Nat) (S : World → Prop) (a : Addr) (k : Nat) (row : List Value) : Prop where
  f : ∀ (j : Nat) {vs : List Value}, Pre vs (row.drop j) → At S ⟨(Addr.add a (mulS (k : Int).toNat n)).block, (Addr.add a (mulS (k : Int).toNat n)).off + j, none⟩ vs
  z : ∀ {vs : List Value}, Pre vs row → At S (Addr.add a (mulS (k : Int).toNat n)) vs
  zz : ∀ {vs : List Value}, Pre vs row → At S (Addr.add (Addr.add a (mulS (k : Int).toNat n)) 0) vs

theorem elt_addr00 (b off k n : Nat) : Addr.add (Addr.add ⟨b, off, none⟩ (mulS k n)) 0 = ⟨b, off + (k * n + 0), none⟩ := by
  rw [elt_addr0, add_off]; rfl

theorem ReadsN.rngM {α : Type} {E : List α} {g : α → List Value} {S : World → Prop} (h : ReadsN n s (E.map g) S) {k : Nat} (hk : k < E.length) {F : Addr → Prop} (f : ∀ a, s.a = some a → Elt n S a k (g E[k]) → F a) : Rng (k : Int) s.len (NilP s.a F) := by
  have hg : (E.map g)[k]'(by simpa using hk) = g E[k] := by simp
  refine h.rng (k := k) (by simpa using hk) fun b off ha hat => f _ ha ⟨fun j vs hp => ?_, fun hp => ?_, fun hp => ?_⟩
  · rw [Int.toNat_natCast, elt_addr]; exact hat j _ (by rw [hg]; exact hp)
  · rw [Int.toNat_natCast, elt_addr0]; exact hat 0 _ (by rw [hg]; exact hp)
  · rw [Int.toNat_natCast, elt_addr00]; exact hat 0 _ (by rw [hg]; exact hp)

theorem OwnN.readsM {rows : List (List Value)} (hw : Sat R Hs w) [t : Take (OwnN n s T rows) Hs Rest] {S : World → Prop} (hS : ∀ w, S w → Sat R Hs w) : ReadsN n s rows S :=
  OwnN.reads (hw.perm t.perm) fun w h => (hS w h).perm t.perm

/-- A store into a field of an element: the elements told by g. -/
theorem OwnN.storeM {α : Type} {E : List α} {g : α → List Value} {t : TypeId} {v : Value} {k : Nat} {a : Addr} {K : World → Prop} (j : Nat) (e' : α) (hw : Sat R Hs w) [tk : Take (OwnN n s T (E.map g)) Hs Rest] (ha : s.a = some a) (hk : k < E.length)
    (hsz : (P.info? t).map (·.size) = some v.cells.toList.length) (h1 : oneAll v.cells.toList = true) (hj : j + v.cells.toList.length ≤ n) (he : putL (g E[k]) j v.cells.toList = g e')
    (h : ∀ w', Sat R (OwnN n s T ((E.set k e').map g) :: Rest) w' → K w') :
    ∃ w', (Instr.storeAt t (.pointer (some ⟨(Addr.add a (mulS (k : Int).toNat n)).block, (Addr.add a (mulS (k : Int).toNat n)).off + j, none⟩)) v).run P w = .ok () w' ∧ K w' := by
  have hw := hw.perm tk.perm
  have hg : (E.map g)[k]'(by simpa using hk) = g E[k] := by simp
  have hb : ∃ b off, a = ⟨b, off, none⟩ := by
    obtain ⟨_, ⟨rfl, _, _⟩ | ⟨b', rest, fr, cap, rfl, hl, hf, hp⟩⟩ := OwnN.cases hw
    · cases ha
    · simp only [Option.some.injEq] at ha; exact ⟨b', 0, ha.symm⟩
  obtain ⟨b, off, rfl⟩ := hb
  rw [Int.toNat_natCast, elt_addr]
  refine OwnN.store hw ha hsz h1 (by simpa using hk) hj fun w' h2 => h w' ?_
  rw [hg, he] at h2
  rw [List.map_set]; exact h2

/-- The one list is the other in another order. -/
class Arr (Hs Hs' : List HP) : Prop where
  perm : Hs.Perm Hs'
instance (priority := 2000) Arr.refl {Hs : List HP} : Arr Hs Hs := ⟨List.Perm.refl _⟩
instance Arr.cons {A : HP} {Hs Rest Hs' : List HP} [t : Take A Hs Rest] [r : Arr Rest Hs'] : Arr Hs (A :: Hs') := ⟨t.perm.trans (r.perm.cons A)⟩
theorem Sat.arr {Hs' : List HP} (h : Sat R Hs w) [a : Arr Hs Hs'] : Sat R Hs' w := h.perm a.perm

/-! ### Branches, by their tests -/

theorem Br.d {p : Prop} {inst : Decidable p} {A B : Prop} (h : p → A) (h' : ¬ p → B) : Br (@decide p inst) A B := Br.mk (fun e => h (of_decide_eq_true e)) (fun e => h' (of_decide_eq_false e))
theorem Br.nd {p : Prop} {inst : Decidable p} {A B : Prop} (h : ¬ p → A) (h' : p → B) : Br (!@decide p inst) A B := Br.mk (fun e => h (by simpa using e)) (fun e => h' (by simpa using e))
theorem Br.e {x y : Int} {A B : Prop} (h : x = y → A) (h' : ¬ x = y → B) : Br (x == y) A B := Br.mk (fun e => h (by simpa using e)) (fun e => h' (by simpa using e))
theorem Br.ne {x y : Int} {A B : Prop} (h : ¬ x = y → A) (h' : x = y → B) : Br (x != y) A B := Br.mk (fun e => h (by simpa using e)) (fun e => h' (by simpa using e))
theorem Br.nne {x y : Int} {A B : Prop} (h : ¬ x = y → A) (h' : x = y → B) : Br (!(x == y)) A B := Br.mk (fun e => h (by simpa using e)) (fun e => h' (by simpa using e))
theorem Br.nb {b : Bool} {A B : Prop} (h : b = false → A) (h' : b = true → B) : Br (!b) A B := Br.mk (fun e => h (by simpa using e)) (fun e => h' (by simpa using e))
theorem str_eql (a b : ByteArray) : (a.toList == b.toList) = decide (a = b) := by
  rw [ByteArray.toList_eq, ByteArray.toList_eq]
  by_cases h : a = b
  · simp [h]
  · have : a.data ≠ b.data := fun h2 => h (by cases a; cases b; simp_all)
    simp [h, this]
theorem Br.se {x y : ByteArray} {A B : Prop} (h : x = y → A) (h' : ¬ x = y → B) : Br (x.toList == y.toList) A B := by rw [str_eql]; exact Br.d h h'
theorem Br.sne {x y : ByteArray} {A B : Prop} (h : ¬ x = y → A) (h' : x = y → B) : Br (!(x.toList == y.toList)) A B := by rw [str_eql]; exact Br.nd h h'

end Go.VC
