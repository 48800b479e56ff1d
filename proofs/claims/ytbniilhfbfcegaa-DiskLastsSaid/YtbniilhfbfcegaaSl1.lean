/- SL, part 1: memory told by blocks: a read-only part R, and a list of predicates over disjoint parts of the rest. No condition. -/
import Derived.Test.YtbniilhfbfcegaaVc7
namespace Go.VC

abbrev Heap := Nat → Option Obj
def Heap.none : Heap := fun _ => Option.none
def Heap.one (b : Nat) (o : Obj) : Heap := fun i => if i = b then some o else Option.none
def Heap.add (R h : Heap) : Heap := fun i => match R i with | some o => some o | .none => h i
def Heap.set (R : Heap) (b : Nat) (o : Obj) : Heap := fun i => if i = b then some o else R i
/-- They share no block. -/
def Heap.dis (R h : Heap) : Prop := ∀ i, h i ≠ .none → R i = .none

abbrev HP := Heap → Prop

/-- What a stretch of the run may not change: memory that is only read; the streams, the tape. -/
structure Cx where
  m : Heap
  os : Os
  tape : Nat → Question → Nat
  output : Array (Nat × ByteArray)
def Cx.add (R : Cx) (h : Heap) : Cx := { R with m := R.m.add h }
def Cx.set (R : Cx) (b : Nat) (o : Obj) : Cx := { R with m := R.m.set b o }
def Cx.dis (R : Cx) (h : Heap) : Prop := R.m.dis h

/-- In world w: R, and apart from it what the list says. -/
def Sat : Cx → List HP → World → Prop
  | R, [], w => (∀ b o, R.m b = some o → w.heap[b]? = some o) ∧ w.os = R.os ∧ w.tape = R.tape ∧ w.output = R.output
  | R, H :: Hs, w => ∃ h, H h ∧ R.dis h ∧ Sat (R.add h) Hs w

/-- Block b is o. -/
def pts (b : Nat) (o : Obj) : HP := fun h => h = Heap.one b o
/-- A pure fact, no block. -/
def pur (p : Prop) : HP := fun h => p ∧ h = Heap.none
/-- For some x. -/
def exs {α : Type} (f : α → HP) : HP := fun h => ∃ x, f x h
/-- All of a list. -/
def Star : List HP → HP
  | [] => fun h => h = Heap.none
  | H :: Hs => fun h => ∃ h1 h2, H h1 ∧ Star Hs h2 ∧ h1.dis h2 ∧ h = h1.add h2

theorem Heap.add_none (R : Heap) : R.add Heap.none = R := by
  funext i; unfold Heap.add Heap.none; cases R i <;> rfl
theorem Heap.add_assoc (R a b : Heap) : (R.add a).add b = R.add (a.add b) := by
  funext i; simp only [Heap.add]; cases R i <;> simp
theorem Heap.add_comm {a b : Heap} (h : a.dis b) : a.add b = b.add a := by
  funext i
  simp only [Heap.add]
  cases hb : b i with
  | none => cases a i <;> rfl
  | some o => rw [h i (by rw [hb]; simp)]
theorem Heap.dis_symm {a b : Heap} (h : a.dis b) : b.dis a := fun i hi => by
  cases hb : b i with
  | none => rfl
  | some o => exact absurd (h i (by rw [hb]; simp)) hi
theorem Heap.dis_add {R a b : Heap} (h1 : R.dis a) (h2 : (R.add a).dis b) : R.dis (a.add b) := fun i hi => by
  cases ha : a i with
  | some o => exact h1 i (by rw [ha]; simp)
  | none =>
    have hb : b i ≠ .none := by simpa [Heap.add, ha] using hi
    have := h2 i hb
    simp only [Heap.add] at this
    cases hr : R i with
    | none => rfl
    | some o => rw [hr] at this; cases this
theorem Heap.dis_of_add {R a b : Heap} (h2 : (R.add a).dis b) : R.dis b ∧ a.dis b := by
  refine ⟨fun i hi => ?_, fun i hi => ?_⟩
  · have := h2 i hi; simp only [Heap.add] at this; cases hr : R i with
    | none => rfl
    | some o => rw [hr] at this; cases this
  · have := h2 i hi; simp only [Heap.add] at this; cases hr : R i with
    | none => rw [hr] at this; exact this
    | some o => rw [hr] at this; cases this
theorem Heap.add_dis {R a b : Heap} (h1 : R.dis b) (h2 : a.dis b) : (R.add a).dis b := fun i hi => by
  simp only [Heap.add, h1 i hi, h2 i hi]

theorem Cx.add_none (R : Cx) : R.add Heap.none = R := by unfold Cx.add; rw [Heap.add_none]
theorem Cx.add_assoc (R : Cx) (a b : Heap) : (R.add a).add b = R.add (a.add b) := by unfold Cx.add; simp only [Heap.add_assoc]
theorem Cx.dis_add {R : Cx} {a b : Heap} (h1 : R.dis a) (h2 : (R.add a).dis b) : R.dis (a.add b) := Heap.dis_add h1 h2
theorem Cx.dis_of_add {R : Cx} {a b : Heap} (h2 : (R.add a).dis b) : R.dis b ∧ a.dis b := Heap.dis_of_add h2
theorem Cx.add_dis {R : Cx} {a b : Heap} (h1 : R.dis b) (h2 : a.dis b) : (R.add a).dis b := Heap.add_dis h1 h2
theorem Cx.m_add (R : Cx) (h : Heap) : (R.add h).m = R.m.add h := rfl

/-- The same but for the memory that is only read. -/
def Cx.like (R R' : Cx) : Prop := R'.os = R.os ∧ R'.tape = R.tape ∧ R'.output = R.output

theorem Sat.of_ro : ∀ {Hs : List HP} {R : Cx} {w : World} {b : Nat} {o : Obj}, Sat R Hs w → R.m b = some o → w.heap[b]? = some o
  | [], _, _, _, _, h, hb => h.1 _ _ hb
  | _ :: _, _, _, b, o, h, hb => by
    obtain ⟨h', _, _, hs⟩ := h
    exact hs.of_ro (by simp only [Cx.m_add, Heap.add, hb])

theorem Sat.streams : ∀ {Hs : List HP} {R : Cx} {w : World}, Sat R Hs w → w.os = R.os ∧ w.tape = R.tape ∧ w.output = R.output
  | [], _, _, h => h.2
  | _ :: _, _, _, h => let ⟨_, _, _, hs⟩ := h; hs.streams

/-- The worlds differ in the count of draws alone. -/
structure Alk (w w' : World) : Prop where
  heap : w'.heap = w.heap
  os : w'.os = w.os
  tape : w'.tape = w.tape
  output : w'.output = w.output

theorem Sat.alk : ∀ {Hs : List HP} {R : Cx} {w w' : World}, Sat R Hs w → Alk w w' → Sat R Hs w'
  | [], _, _, _, h, e => ⟨fun b o hb => by rw [e.heap]; exact h.1 b o hb, e.os.trans h.2.1, e.tape.trans h.2.2.1, e.output.trans h.2.2.2⟩
  | _ :: _, _, _, _, h, e => let ⟨h', hH, hd, hs⟩ := h; ⟨h', hH, hd, hs.alk e⟩

theorem Sat.drew {R : Cx} {Hs : List HP} {w : World} (h : Sat R Hs w) : Sat R Hs w.drew := h.alk ⟨rfl, rfl, rfl, rfl⟩

theorem Sat.swap {R : Cx} {A B : HP} {Hs : List HP} {w : World} (h : Sat R (A :: B :: Hs) w) : Sat R (B :: A :: Hs) w := by
  obtain ⟨a, hA, hda, b, hB, hdb, hs⟩ := h
  obtain ⟨h1, h2⟩ := Cx.dis_of_add hdb
  refine ⟨b, hB, h1, a, hA, Cx.add_dis hda (Heap.dis_symm h2), ?_⟩
  rw [Cx.add_assoc, ← Heap.add_comm h2, ← Cx.add_assoc]
  exact hs

theorem Sat.cons {R : Cx} {A : HP} {Hs Hs' : List HP} {w w' : World} (k : ∀ R', Sat R' Hs w → Sat R' Hs' w') (h : Sat R (A :: Hs) w) : Sat R (A :: Hs') w' :=
  let ⟨a, hA, hd, hs⟩ := h; ⟨a, hA, hd, k _ hs⟩

theorem Sat.perm {Hs Hs' : List HP} (p : Hs.Perm Hs') : ∀ {R : Cx} {w : World}, Sat R Hs w → Sat R Hs' w := by
  induction p with
  | nil => exact fun h => h
  | cons x _ ih => exact fun h => h.cons fun _ => ih
  | swap x y l => exact fun h => h.swap
  | trans _ _ ih1 ih2 => exact fun h => ih2 (ih1 h)

/-- Less memory that is only read. -/
theorem Sat.ro_of : ∀ {Hs : List HP} {R R' : Cx} {w : World}, (∀ b o, R'.m b = some o → R.m b = some o) → R.like R' → Sat R Hs w → Sat R' Hs w
  | [], _, _, _, k, e, h => ⟨fun b o hb => h.1 b o (k b o hb), h.2.1.trans e.1.symm, h.2.2.1.trans e.2.1.symm, h.2.2.2.trans e.2.2.symm⟩
  | _ :: _, R, R', _, k, e, h => by
    obtain ⟨a, hA, hd, hs⟩ := h
    refine ⟨a, hA, fun i hi => ?_, Sat.ro_of (R := R.add a) (R' := R'.add a) (fun b o hb => ?_) e hs⟩
    · cases hr : R'.m i with
      | none => rfl
      | some o => have := hd i hi; rw [k i o hr] at this; cases this
    · simp only [Cx.m_add, Heap.add] at hb ⊢
      cases hr' : R'.m b with
      | some o' => rw [hr'] at hb; rw [k b o' hr']; exact hb
      | none =>
        rw [hr'] at hb
        have hn := hd b (by simp only at hb; rw [hb]; simp)
        rw [hn]; exact hb

/-- What is not needed any more. -/
theorem Sat.drop {R : Cx} {A : HP} {Hs : List HP} {w : World} (h : Sat R (A :: Hs) w) : Sat R Hs w := by
  obtain ⟨a, _, hd, hs⟩ := h
  exact Sat.ro_of (R := R.add a) (R' := R) (fun b o hb => by simp only [Cx.m_add, Heap.add, hb]) ⟨rfl, rfl, rfl⟩ hs

theorem Sat.append_drop {R : Cx} {w : World} : ∀ {As Hs : List HP}, Sat R (As ++ Hs) w → Sat R Hs w
  | [], _, h => h
  | _ :: _, _, h => Sat.append_drop (Sat.drop h)

theorem Sat.lend {R : Cx} {b : Nat} {o : Obj} {Hs : List HP} {w : World} : Sat R (pts b o :: Hs) w ↔ R.m b = .none ∧ Sat (R.add (Heap.one b o)) Hs w := by
  constructor
  · rintro ⟨a, rfl, hd, hs⟩
    exact ⟨hd b (by simp [Heap.one]), hs⟩
  · rintro ⟨hb, hs⟩
    refine ⟨_, rfl, fun i hi => ?_, hs⟩
    by_cases h : i = b
    · subst h; exact hb
    · simp [Heap.one, h] at hi

/-- A block that is lent out reads as it is. -/
theorem Cx.lent {R : Cx} {b : Nat} {o : Obj} (h : R.m b = .none) : (R.add (Heap.one b o)).m b = some o := by
  simp [Cx.m_add, Heap.add, h, Heap.one]
theorem Cx.kept {R : Cx} {h : Heap} {b : Nat} {o : Obj} (hb : R.m b = some o) : (R.add h).m b = some o := by
  simp only [Cx.m_add, Heap.add, hb]

theorem Sat.at {R : Cx} {b : Nat} {o : Obj} {Hs : List HP} {w : World} (h : Sat R (pts b o :: Hs) w) : w.heap[b]? = some o :=
  let ⟨hb, hs⟩ := Sat.lend.1 h
  hs.of_ro (Cx.lent hb)

theorem Sat.pur {R : Cx} {p : Prop} {Hs : List HP} {w : World} : Sat R (VC.pur p :: Hs) w ↔ p ∧ Sat R Hs w := by
  constructor
  · rintro ⟨a, ⟨hp, rfl⟩, _, hs⟩
    rw [Cx.add_none] at hs
    exact ⟨hp, hs⟩
  · rintro ⟨hp, hs⟩
    exact ⟨Heap.none, ⟨hp, rfl⟩, fun i hi => absurd rfl hi, by rw [Cx.add_none]; exact hs⟩

theorem Sat.exs {α : Type} {R : Cx} {f : α → HP} {Hs : List HP} {w : World} : Sat R (VC.exs f :: Hs) w ↔ ∃ x, Sat R (f x :: Hs) w := by
  constructor
  · rintro ⟨a, ⟨x, hx⟩, hd, hs⟩; exact ⟨x, a, hx, hd, hs⟩
  · rintro ⟨x, a, hx, hd, hs⟩; exact ⟨a, ⟨x, hx⟩, hd, hs⟩

theorem Sat.star {w : World} : ∀ {l : List HP} {R : Cx} {Hs : List HP}, Sat R (Star l :: Hs) w ↔ Sat R (l ++ Hs) w
  | [], R, Hs => by
    constructor
    · rintro ⟨a, rfl, _, hs⟩; rw [Cx.add_none] at hs; exact hs
    · intro hs; exact ⟨Heap.none, rfl, fun i hi => absurd rfl hi, by rw [Cx.add_none]; exact hs⟩
  | A :: l, R, Hs => by
    constructor
    · rintro ⟨x, ⟨h1, h2, hA, hl, hd, rfl⟩, hdx, hs⟩
      have d1 : R.dis h1 := fun i hi => hdx i (by simp only [Heap.add]; cases h : h1 i <;> simp_all)
      refine ⟨h1, hA, d1, Sat.star.1 ⟨h2, hl, Cx.add_dis (fun i hi => hdx i ?_) hd, by rw [Cx.add_assoc]; exact hs⟩⟩
      simp only [Heap.add]; cases h : h1 i <;> simp_all
    · rintro ⟨h1, hA, d1, hs⟩
      obtain ⟨h2, hl, d2, hs⟩ := Sat.star.2 hs
      refine ⟨h1.add h2, ⟨h1, h2, hA, hl, (Cx.dis_of_add d2).2, rfl⟩, Cx.dis_add d1 d2, by rw [← Cx.add_assoc]; exact hs⟩

/-! ### Changes -/

def _root_.Go.World.setBlock (w : World) (b : Nat) (o : Obj) : World := { w with heap := w.heap.setIfInBounds b o }

theorem Heap.set_add {R h : Heap} {b : Nat} {o o' : Obj} (hb : R b = some o) : (R.set b o').add h = (R.add h).set b o' := by
  funext i
  simp only [Heap.add, Heap.set]
  by_cases hi : i = b
  · subst hi; simp
  · simp [hi]
theorem Cx.set_add {R : Cx} {h : Heap} {b : Nat} {o o' : Obj} (hb : R.m b = some o) : (R.set b o').add h = (R.add h).set b o' := by
  unfold Cx.set Cx.add; simp only [Heap.set_add hb]

theorem Sat.upd : ∀ {Hs : List HP} {R : Cx} {w : World} {b : Nat} {o : Obj} (o' : Obj), Sat R Hs w → R.m b = some o → Sat (R.set b o') Hs (w.setBlock b o')
  | [], R, w, b, o, o', h, hb => by
    refine ⟨fun i x hx => ?_, h.2⟩
    have hlt : b < w.heap.size := (Array.getElem?_eq_some_iff.1 (h.1 b o hb)).1
    simp only [Cx.set, Heap.set] at hx
    simp only [World.setBlock]
    by_cases hi : i = b
    · subst hi
      simp only [if_true, Option.some.injEq] at hx
      subst hx
      simp [hlt]
    · rw [if_neg hi] at hx
      rw [Array.getElem?_setIfInBounds_ne (Ne.symm hi)]
      exact h.1 i x hx
  | H :: Hs, R, w, b, o, o', h, hb => by
    obtain ⟨a, hA, hd, hs⟩ := h
    have := Sat.upd o' hs (b := b) (o := o) (Cx.kept hb)
    refine ⟨a, hA, fun i hi => ?_, ?_⟩
    · have hr := hd i hi
      simp only [Cx.set, Heap.set]
      by_cases h : i = b
      · subst h; rw [hb] at hr; cases hr
      · rw [if_neg h]; exact hr
    · rw [Cx.set_add hb]; exact this

theorem Sat.setPts {R : Cx} {b : Nat} {o : Obj} {Hs : List HP} {w : World} (o' : Obj) (h : Sat R (pts b o :: Hs) w) : Sat R (pts b o' :: Hs) (w.setBlock b o') := by
  obtain ⟨hb, hs⟩ := Sat.lend.1 h
  refine Sat.lend.2 ⟨hb, ?_⟩
  have h1 := Sat.upd o' hs (b := b) (o := o) (Cx.lent hb)
  have e : (R.add (Heap.one b o)).set b o' = R.add (Heap.one b o') := by
    unfold Cx.set Cx.add
    congr 1
    funext i
    simp only [Heap.add, Heap.set, Heap.one]
    by_cases hi : i = b
    · subst hi; simp [hb]
    · simp [hi]
  rw [e] at h1
  exact h1

theorem Sat.ro_lt {R : Cx} {Hs : List HP} {w : World} (h : Sat R Hs w) {b : Nat} (hb : w.heap.size ≤ b) : R.m b = .none := by
  cases hr : R.m b with
  | none => rfl
  | some o =>
    have := h.of_ro hr
    rw [Array.getElem?_eq_none hb] at this
    cases this

theorem Sat.grow : ∀ {Hs : List HP} {R : Cx} {w : World} (o : Obj), Sat R Hs w → Sat (R.add (Heap.one w.heap.size o)) Hs (w.alloc o)
  | [], R, w, o, h => by
    refine ⟨fun b x hx => ?_, h.2⟩
    simp only [Cx.m_add, Heap.add, Heap.one] at hx
    cases hr : R.m b with
    | some y =>
      rw [hr] at hx
      have := h.1 b y hr
      have hlt : b < w.heap.size := (Array.getElem?_eq_some_iff.1 this).1
      simp only at hx
      simp only [World.alloc]
      rw [Array.getElem?_push_lt hlt, ← Array.getElem?_eq_getElem, this, hx]
    | none =>
      rw [hr] at hx
      simp only at hx
      split at hx
      · rename_i hb; subst hb; cases hx; show (w.heap.push o)[w.heap.size]? = _; simp
      · cases hx
  | H :: Hs, R, w, o, h => by
    have hR : R.m w.heap.size = .none := Sat.ro_lt h (Nat.le_refl _)
    obtain ⟨a, hA, hd, hs⟩ := h
    have hadd : (R.add a).m w.heap.size = .none := Sat.ro_lt hs (Nat.le_refl _)
    have ha : a w.heap.size = .none := by simpa [Cx.m_add, Heap.add, hR] using hadd
    have := Sat.grow o hs
    have hdis : (Heap.one w.heap.size o).dis a := by
      intro i hi
      simp only [Heap.one]
      split
      · rename_i h; subst h; exact absurd ha hi
      · rfl
    refine ⟨a, hA, Cx.add_dis hd hdis, ?_⟩
    rw [Cx.add_assoc, Heap.add_comm hdis, ← Cx.add_assoc]
    exact this

theorem Sat.alloc {R : Cx} {Hs : List HP} {w : World} (o : Obj) (h : Sat R Hs w) : Sat R (pts w.heap.size o :: Hs) (w.alloc o) :=
  Sat.lend.2 ⟨Sat.ro_lt h (Nat.le_refl _), Sat.grow o h⟩

/-! ### The beginning: all that there is is only read -/

def Cx.of (w : World) : Cx := { m := fun b => w.heap[b]?, os := w.os, tape := w.tape, output := w.output }

theorem Sat.start (w : World) : Sat (Cx.of w) [] w := ⟨fun _ _ h => h, rfl, rfl, rfl⟩

end Go.VC
