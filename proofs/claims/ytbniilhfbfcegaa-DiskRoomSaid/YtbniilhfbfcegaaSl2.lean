/- SL, part 2: rules for the formulas of single operations. No condition. -/
import Derived.Test.YtbniilhfbfcegaaSl1
namespace Go.VC

/-- The list holds block b; the rest of it. -/
class TakeP (b : Nat) (Hs : List HP) (o : outParam Obj) (Rest : outParam (List HP)) : Prop where
  perm : Hs.Perm (pts b o :: Rest)
instance (priority := 2000) TakeP.head {b : Nat} {o : Obj} {Hs : List HP} : TakeP b (pts b o :: Hs) o Hs := ⟨List.Perm.refl _⟩
instance TakeP.tail {b : Nat} {H : HP} {Hs : List HP} {o : Obj} {Rest : List HP} [t : TakeP b Hs o Rest] : TakeP b (H :: Hs) o (H :: Rest) :=
  ⟨(t.perm.cons H).trans (.swap _ _ _)⟩

/-- The list holds A; the rest of it. -/
class Take (A : HP) (Hs : List HP) (Rest : outParam (List HP)) : Prop where
  perm : Hs.Perm (A :: Rest)
instance (priority := 2000) Take.head {A : HP} {Hs : List HP} : Take A (A :: Hs) Hs := ⟨List.Perm.refl _⟩
instance Take.tail {A H : HP} {Hs : List HP} {Rest : List HP} [t : Take A Hs Rest] : Take A (H :: Hs) (H :: Rest) :=
  ⟨(t.perm.cons H).trans (.swap _ _ _)⟩

theorem Sat.takeP {R : Cx} {Hs Rest : List HP} {w : World} {b : Nat} {o : Obj} (h : Sat R Hs w) (t : TakeP b Hs o Rest) : Sat R (pts b o :: Rest) w := h.perm t.perm
theorem Sat.take {R : Cx} {Hs Rest : List HP} {w : World} (A : HP) [t : Take A Hs Rest] (h : Sat R Hs w) : Sat R (A :: Rest) w := h.perm t.perm
theorem Sat.look {R : Cx} {Hs Rest : List HP} {w : World} {o : Obj} (b : Nat) [t : TakeP b Hs o Rest] (h : Sat R Hs w) : w.heap[b]? = some o := (h.takeP t).at

theorem eqS {R : Cx} {Hs : List HP} {w : World} (h : Sat R Hs w) : ∀ w', (fun w' => w' = w) w' → Sat R Hs w' := fun _ e => by rw [show _ = w from e]; exact h
theorem selfS {R : Cx} {Hs : List HP} : ∀ w', Sat R Hs w' → Sat R Hs w' := fun _ h => h

/-- vs stands at the head of l. -/
def Pre : List Value → List Value → Prop
  | [], _ => True
  | v :: vs, x :: l => v = x ∧ Pre vs l
  | _ :: _, [] => False

theorem Pre.get : ∀ {vs l : List Value}, Pre vs l → ∀ (i : Nat) (v : Value), vs[i]? = some v → l[i]? = some v
  | [], _, _, i, v, h => by simp at h
  | x :: vs, y :: l, hp, 0, v, h => by simp only [List.getElem?_cons_zero] at h ⊢; rw [← hp.1]; exact h
  | x :: vs, y :: l, hp, i + 1, v, h => by simp only [List.getElem?_cons_succ] at h ⊢; exact hp.2.get i v h
  | _ :: _, [], hp, _, _, _ => hp.elim

theorem cell_of {w : World} {b : Nat} {l : List Value} {T : TypeId} {fr : Nat × Nat} (h : w.heap[b]? = some (.cells l.toArray T fr)) (i : Nat) : w.cell? ⟨b, i, none⟩ = l[i]? := by
  simp [World.cell?, h]

theorem add_off (b o i : Nat) : Addr.add ⟨b, o, none⟩ i = ⟨b, o + i, none⟩ := by
  unfold Addr.add; split
  · rename_i h; subst h; rfl
  · rfl

theorem At.mk {S : World → Prop} {b off : Nat} {vs l : List Value} {T : TypeId} {fr : Nat × Nat} (h : ∀ w, S w → w.heap[b]? = some (.cells l.toArray T fr)) (hp : Pre vs (l.drop off)) : At S ⟨b, off, none⟩ vs := by
  intro w hw i v hv
  have := hp.get i v hv
  rw [List.getElem?_drop] at this
  rw [add_off, cell_of (h w hw), this]

/-- A load out of a block of one's own. -/
theorem At.own {S : World → Prop} {R : Cx} {Hs Rest : List HP} {b off : Nat} {vs l : List Value} {T : TypeId} {fr : Nat × Nat} (hS : ∀ w, S w → Sat R Hs w)
    [t : TakeP b Hs (.cells l.toArray T fr) Rest] (hp : Pre vs (l.drop off)) : At S ⟨b, off, none⟩ vs := At.mk (fun w hw => (hS w hw).look b) hp

/-- A load out of a block that is only read. -/
theorem At.ro {S : World → Prop} {R : Cx} {Hs : List HP} {b off : Nat} {vs l : List Value} {T : TypeId} {fr : Nat × Nat} (hS : ∀ w, S w → Sat R Hs w)
    (hR : R.m b = some (.cells l.toArray T fr)) (hp : Pre vs (l.drop off)) : At S ⟨b, off, none⟩ vs := At.mk (fun w hw => (hS w hw).of_ro hR) hp

theorem new_rule {R : Cx} {Hs : List HP} {w : World} {o : Obj} {K : Nat → World → Prop} (hw : Sat R Hs w) (k : ∀ b w', Sat R (pts b o :: Hs) w' → K b w') : New o K w :=
  k _ _ (Sat.alloc o hw)

theorem drw_rule {R : Cx} {Hs : List HP} {w : World} {F : (World → Prop) → World → Prop} (hw : Sat R Hs w) (k : ∀ w', Sat R Hs w' → F (Sat R Hs) w') : Drw w F :=
  ⟨Sat R Hs, Sat R Hs, hw.drew, fun w' h => ⟨h, k w' h⟩⟩

/-- ... by less than all: S is what the reads want. -/
theorem drw_rule' {R : Cx} {Hs : List HP} {w : World} {F : (World → Prop) → World → Prop} (S : World → Prop) (hw : Sat R Hs w) (hS : ∀ w', Sat R Hs w' → S w') (k : ∀ w', Sat R Hs w' → F S w') : Drw w F :=
  ⟨Sat R Hs, S, hw.drew, fun w' h => ⟨hS w' h, k w' h⟩⟩

/-- Whatever more there is. -/
def tru : HP := fun _ => True
theorem Sat.tru {R : Cx} {Hs : List HP} {w : World} (h : Sat R Hs w) : Sat R (VC.tru :: Hs) w := ⟨Heap.none, trivial, fun _ hi => absurd rfl hi, by rw [Cx.add_none]; exact h⟩
theorem Sat.absorb {R : Cx} {A : HP} {Hs : List HP} {w : World} (h : Sat R (A :: VC.tru :: Hs) w) : Sat R (VC.tru :: Hs) w := by
  obtain ⟨a, _, hda, b, _, hdb, hs⟩ := h
  refine ⟨a.add b, trivial, Cx.dis_add hda hdb, ?_⟩
  rw [← Cx.add_assoc]; exact hs
/-- A region that draws, in which more and more is got. -/
theorem drw_ruleT {R : Cx} {Hs : List HP} {w : World} {F : (World → Prop) → World → Prop} (hw : Sat R Hs w) (k : ∀ w', Sat R (VC.tru :: Hs) w' → F (Sat R (VC.tru :: Hs)) w') : Drw w F :=
  ⟨_, _, hw.tru.drew, fun w' h => ⟨h, k w' h⟩⟩

/-! ### Integers that do not wrap -/

theorem wrap64 {x : Int} (h0 : -9223372036854775808 ≤ x) (h1 : x < 9223372036854775808) : IntKind.i64.wrap x = x := by
  have : IntKind.i64.wrap x = (x + 9223372036854775808) % 18446744073709551616 - 9223372036854775808 := by
    rw [IntKind.wrap_i64]
  rw [this]; omega

/-! ### Slices that are only read -/

def Sl.v (s : Sl) : Value := .slice s.a s.len s.cap

/-- The slice's elements are the values xs (one cell each), in memory that is only read; not too many of them. -/
structure Ro (R : Cx) (s : Sl) (xs : List Value) : Prop where
  len : s.len = xs.length
  bound : xs.length ≤ 9223372036854775807
  mem : xs ≠ [] → ∃ b off l T fr, s.a = some ⟨b, off, none⟩ ∧ R.m b = some (.cells l T fr) ∧ ∀ (i : Nat) v, xs[i]? = some v → l[off + i]? = some v

theorem Ro.add {R : Cx} {h : Heap} {s : Sl} {xs : List Value} (hr : Ro R s xs) : Ro (R.add h) s xs :=
  ⟨hr.len, hr.bound, fun hx => let ⟨b, off, l, T, fr, ha, hb, hl⟩ := hr.mem hx; ⟨b, off, l, T, fr, ha, Cx.kept hb, hl⟩⟩

theorem Ro.addr {R : Cx} {s : Sl} {xs : List Value} (hr : Ro R s xs) {k : Nat} (hk : k < xs.length) : ∃ a, s.a = some a ∧
    ∀ {S : World → Prop} {Hs : List HP}, (∀ w, S w → Sat R Hs w) → At S (a.add k) [xs[k]] := by
  obtain ⟨b, off, l, T, fr, ha, hb, hl⟩ := hr.mem (by intro h; rw [h] at hk; simp at hk)
  refine ⟨_, ha, fun hS w hw i v hv => ?_⟩
  have hi : i = 0 := by
    cases i with
    | zero => rfl
    | succ i => simp at hv
  subst hi
  simp only [List.getElem?_cons_zero, Option.some.injEq] at hv
  subst hv
  rw [add_off, add_off]
  have := (hS w hw).of_ro hb
  simp only [World.cell?, this, Option.isSome_none, Bool.false_eq_true, if_false]
  exact hl k _ (List.getElem?_eq_getElem hk)

/-- A slice of ints. -/
abbrev RoI (R : Cx) (s : Sl) (xs : List Int) : Prop := Ro R s (xs.map (Value.int .i64))

theorem RoI.len {R : Cx} {s : Sl} {xs : List Int} (h : RoI R s xs) : s.len = xs.length := by rw [Ro.len h]; simp
theorem RoI.bound {R : Cx} {s : Sl} {xs : List Int} (h : RoI R s xs) : xs.length ≤ 9223372036854775807 := by have := Ro.bound h; simpa using this

theorem RoI.addr {R : Cx} {s : Sl} {xs : List Int} (hr : RoI R s xs) {k : Nat} (hk : k < xs.length) : ∃ a, s.a = some a ∧
    ∀ {S : World → Prop} {Hs : List HP}, (∀ w, S w → Sat R Hs w) → At S (a.add k) [.int .i64 xs[k]] := by
  obtain ⟨a, ha, h⟩ := Ro.addr hr (k := k) (by simpa using hk)
  refine ⟨a, ha, fun hS => ?_⟩
  have := h hS
  simpa using this

/-- An element, as the formulas ask for it. -/
theorem RoI.idx {S : World → Prop} {R : Cx} {Hs : List HP} {s : Sl} {xs : List Int} (hr : RoI R s xs) (hS : ∀ w, S w → Sat R Hs w) {k : Nat} (hk : k < xs.length) {F : Int → Prop} (h : F xs[k]) :
    Rng (k : Int) s.len (NilP s.a fun a => ∃ t : Int, (At S (a.add (k : Int).toNat) [.int .i64 t]) ∧ F t) := by
  obtain ⟨a, ha, hat⟩ := RoI.addr hr hk
  have hl := RoI.len hr
  exact Rng.mk (by omega) (by omega) (NilP.mk ha ⟨xs[k], hat hS, h⟩)

/-- A slice of slices. -/
theorem Ro.idxS {S : World → Prop} {R : Cx} {Hs : List HP} {m : Sl} {ms : List Sl} (hr : Ro R m (ms.map Sl.v)) (hS : ∀ w, S w → Sat R Hs w) {k : Nat} (hk : k < ms.length) {F : Sl → Prop} (h : F ms[k]) :
    Rng (k : Int) m.len (NilP m.a fun a => ∃ t : Sl, (At S (a.add (k : Int).toNat) [.slice t.a t.len t.cap]) ∧ F t) := by
  obtain ⟨a, ha, hat⟩ := hr.addr (k := k) (by simpa using hk)
  have hl : m.len = ms.length := by have := hr.len; simpa using this
  refine Rng.mk (by omega) (by omega) (NilP.mk ha ⟨ms[k], ?_, h⟩)
  have := hat hS
  simpa [Sl.v] using this

end Go.VC
