/- The disk: its memory, its small operations. Condition: none. -/
import Derived.Test.YtbniilhfbfcegaaD1
namespace Go.Proofs.Ytbniilhfbfcegaa
open Go Go.VC

variable {R : Cx} {Hs Rest : List HP} {w : World}

abbrev b8 (l : List Int) : List Value := l.map (Value.int .u8)

/-- A file's struct and its bytes. -/
def FileAt (p : Nat) (f : Fl) : HP := exs fun s : Sl => Star [pts p (.cells [.slice s.a s.len s.cap, .int .i64 f.sure].toArray 61 (0, 0)), Own s 5 (b8 f.b)]
/-- Name, block, file. -/
abbrev DE := ByteArray × Nat × Fl
def er (E : List DE) : Fs := E.map fun e => (e.1, e.2.2)
def ptrs (E : List DE) : List (ByteArray × Value) := E.map fun e => (e.1, .pointer (some ⟨e.2.1, 0, none⟩))
def FilesAt (E : List DE) : HP := Star (E.map fun e => FileAt e.2.1 e.2.2)
/-- The disk's own cells. -/
abbrev dCells (st : DS) (m : Nat) : Obj := .cells [.int .i64 st.room, .int .i64 (total st.fs), .map (some m), .int .i64 st.fail, .int .i64 st.arm, .bool st.off].toArray 53 (0, 0)
def DiskAt (d : Nat) (st : DS) : HP := exs fun x : Nat × List DE => Star [pur (er x.2 = st.fs), pts d (dCells st x.1), MapAt x.1 (ptrs x.2), FilesAt x.2]

theorem Sat.disk {d : Nat} {st : DS} : Sat R (DiskAt d st :: Hs) w ↔ ∃ m E, er E = st.fs ∧ Sat R (pts d (dCells st m) :: MapAt m (ptrs E) :: FilesAt E :: Hs) w := by
  unfold DiskAt
  rw [Sat.exs]
  constructor
  · rintro ⟨⟨m, E⟩, h⟩
    have := Sat.star.1 h
    exact ⟨m, E, Sat.pur.1 this⟩
  · rintro ⟨m, E, h1, h2⟩
    exact ⟨⟨m, E⟩, Sat.star.2 (Sat.pur.2 ⟨h1, h2⟩)⟩

theorem Sat.file {p : Nat} {f : Fl} : Sat R (FileAt p f :: Hs) w ↔ ∃ s : Sl, Sat R (pts p (.cells [.slice s.a s.len s.cap, .int .i64 f.sure].toArray 61 (0, 0)) :: Own s 5 (b8 f.b) :: Hs) w := by
  unfold FileAt
  rw [Sat.exs]
  exact ⟨fun ⟨s, h⟩ => ⟨s, Sat.star.1 h⟩, fun ⟨s, h⟩ => ⟨s, Sat.star.2 h⟩⟩

/-- One of the files. -/
theorem Sat.split {a b : List DE} {e : DE} : Sat R (FilesAt (a ++ e :: b) :: Hs) w ↔ Sat R (FileAt e.2.1 e.2.2 :: FilesAt (a ++ b) :: Hs) w := by
  have p : ((a ++ e :: b).map fun e : DE => FileAt e.2.1 e.2.2).Perm (FileAt e.2.1 e.2.2 :: (a ++ b).map fun e : DE => FileAt e.2.1 e.2.2) := by
    rw [List.map_append, List.map_cons, List.map_append]; exact List.perm_middle
  unfold FilesAt
  constructor
  · intro h
    have h1 := (Sat.star.1 h).perm (p.append_right Hs)
    exact h1.cons fun _ h => Sat.star.2 h
  · intro h
    have h1 : Sat R ((FileAt e.2.1 e.2.2 :: (a ++ b).map fun e : DE => FileAt e.2.1 e.2.2) ++ Hs) w := h.cons fun _ h => Sat.star.1 h
    exact Sat.star.2 (h1.perm (p.symm.append_right Hs))

/-! ### New -/

def newErr (room : Int) : Int := if room < 1 ∨ room > 16777216 then 1 else 0

theorem new_spec (room : Int) (hw : Sat R Hs w) : Gets Try.prog 10 #[.int .i64 room] w fun v w' =>
    (newErr room = 1 ∧ v = .tuple #[.pointer none, .int .i64 1] ∧ Sat R Hs w') ∨
    (newErr room = 0 ∧ 1 ≤ room ∧ room ≤ 16777216 ∧ ∃ d, v = .tuple #[.pointer (some ⟨d, 0, none⟩), .int .i64 0] ∧ Sat R (DiskAt d ⟨room, [], -1, -1, false⟩ :: Hs) w') := by
  apply call10
  refine Br.mk (fun h => ?_) (fun h => Br.mk (fun h2 => ?_) (fun h2 => ?_)) <;> simp only [decide_eq_true_eq, decide_eq_false_iff_not] at h
  · exact .inl ⟨if_pos (.inl h), rfl, hw⟩
  · simp only [decide_eq_true_eq] at h2
    exact .inl ⟨if_pos (.inr h2), rfl, hw⟩
  · simp only [decide_eq_false_iff_not] at h2
    refine new_rule hw fun m w hw => new_rule hw fun d w hw => .inr ⟨if_neg (by omega), by omega, by omega, d, rfl, ?_⟩
    refine Sat.disk.2 ⟨m, [], rfl, hw.cons fun _ h => (MapAt.new rfl h).cons fun _ h => ?_⟩
    exact Sat.star.2 h

/-! ### Counting down, asking for something later -/

/-- What is left of a count; whether the moment is there. -/
def metN (n : Int) : Int × Bool := if n == -1 then (n, false) else (n - 1, n - 1 == -1)

theorem met_spec {b i : Nat} {l : List Value} {T : TypeId} {n : Int} (hw : Sat R (pts b (.cells l.toArray T (0, 0)) :: Hs) w) (hi : l[i]? = some (.int .i64 n)) (h0 : -1 ≤ n) (h1 : n < 9223372036854775808) :
    Gets Try.prog 45 #[.pointer (some ⟨b, i, none⟩)] w fun r w' => r = .bool (metN n).2 ∧ Sat R (pts b (.cells (l.set i (.int .i64 (metN n).1)).toArray T (0, 0)) :: Hs) w' := by
  have hlt : i < l.length := (List.getElem?_eq_some_iff.1 hi).1
  have hat : ∀ {w} {l : List Value} {v : Value}, Sat R (pts b (.cells l.toArray T (0, 0)) :: Hs) w → l[i]? = some v → At (fun w' => w' = w) ⟨b, i, none⟩ [v] := fun {w l v} hw hi => by
    refine At.own (eqS hw) ?_
    obtain ⟨h, rfl⟩ := List.getElem?_eq_some_iff.1 hi
    rw [List.drop_eq_getElem_cons h]; exact ⟨rfl, trivial⟩
  apply call45
  refine NilP.mk rfl ⟨n, hat hw hi, Br.mk (fun h => ?_) (fun h => ?_)⟩
  · refine ⟨by simp [metN, h], ?_⟩
    have : l.set i (.int .i64 (metN n).1) = l := by
      obtain ⟨h', e⟩ := List.getElem?_eq_some_iff.1 hi
      unfold metN; rw [if_pos h, ← e, List.set_getElem_self]
    rw [this]; exact hw
  · simp only [beq_eq_false_iff_ne, ne_eq] at h
    refine NilP.mk rfl ⟨n, hat hw hi, NilP.mk rfl ?_⟩
    rw [wrap64 (by omega) (by omega)]
    refine store_rule hw (by kernel_rfl) rfl (by simp [Value.cells]; omega) fun w' hw => ?_
    have e : putL l i (Value.int .i64 (n - 1)).cells.toList = l.set i (.int .i64 (n - 1)) := by simp [putL, Value.cells]
    rw [e] at hw
    refine NilP.mk rfl ⟨n - 1, hat hw (by simp [hlt]), ?_⟩
    unfold metN
    rw [if_neg (by simpa using h)]
    exact ⟨rfl, hw⟩

theorem later_spec {b i : Nat} {l : List Value} {T : TypeId} {n0 : Int} (n : Int) (hw : Sat R (pts b (.cells l.toArray T (0, 0)) :: Hs) w) (hi : l[i]? = some (.int .i64 n0)) :
    Gets Try.prog 26 #[.pointer (some ⟨b, i, none⟩), .int .i64 n] w fun r w' => r = .int .i64 (if n < 0 then 1 else 0) ∧ Sat R (pts b (.cells (l.set i (.int .i64 (if n < 0 then n0 else n))).toArray T (0, 0)) :: Hs) w' := by
  have hlt : i < l.length := (List.getElem?_eq_some_iff.1 hi).1
  apply call26
  refine Br.mk (fun h => ?_) (fun h => ?_) <;> simp only [decide_eq_true_eq, decide_eq_false_iff_not] at h
  · rw [if_pos h, if_pos h]
    refine ⟨rfl, ?_⟩
    obtain ⟨h', e⟩ := List.getElem?_eq_some_iff.1 hi
    rw [← e, List.set_getElem_self]; exact hw
  · rw [if_neg h, if_neg h]
    refine NilP.mk rfl ?_
    refine store_rule hw (by kernel_rfl) rfl (by simp [Value.cells]; omega) fun w' hw => ⟨rfl, ?_⟩
    have e : putL l i (Value.int .i64 n).cells.toList = l.set i (.int .i64 n) := by simp [putL, Value.cells]
    rw [e] at hw; exact hw

theorem fail_spec {d : Nat} {st : DS} (n : Int) (hw : Sat R (DiskAt d st :: Hs) w) :
    Gets Try.prog 13 #[.pointer (some ⟨d, 0, none⟩), .int .i64 n] w fun r w' => r = .int .i64 (if n < 0 then 1 else 0) ∧ Sat R (DiskAt d { st with fail := if n < 0 then st.fail else n } :: Hs) w' := by
  obtain ⟨m, E, hE, hw⟩ := Sat.disk.1 hw
  apply call13
  refine NilP.mk rfl ?_
  refine (later_spec n hw (i := 3) rfl).use ?_
  rintro _ w ⟨rfl, hw⟩
  exact ⟨_, rfl, rfl, Sat.disk.2 ⟨m, E, hE, hw⟩⟩

theorem arm_spec {d : Nat} {st : DS} (n : Int) (hw : Sat R (DiskAt d st :: Hs) w) :
    Gets Try.prog 16 #[.pointer (some ⟨d, 0, none⟩), .int .i64 n] w fun r w' => r = .int .i64 (if n < 0 then 1 else 0) ∧ Sat R (DiskAt d { st with arm := if n < 0 then st.arm else n } :: Hs) w' := by
  obtain ⟨m, E, hE, hw⟩ := Sat.disk.1 hw
  apply call16
  refine NilP.mk rfl ?_
  refine (later_spec n hw (i := 4) rfl).use ?_
  rintro _ w ⟨rfl, hw⟩
  exact ⟨_, rfl, rfl, Sat.disk.2 ⟨m, E, hE, hw⟩⟩

theorem size_spec {d : Nat} {st : DS} (hw : Sat R (DiskAt d st :: Hs) w) :
    Gets Try.prog 14 #[.pointer (some ⟨d, 0, none⟩)] w fun r w' => r = .int .i64 (total st.fs) ∧ Sat R (DiskAt d st :: Hs) w' := by
  have hw0 := hw
  obtain ⟨m, E, hE, hw⟩ := Sat.disk.1 hw
  apply call14
  exact NilP.mk rfl ⟨_, At.own (eqS hw) (by exact ⟨rfl, trivial⟩), rfl, hw0⟩

theorem off_spec {d : Nat} {st : DS} (hw : Sat R (DiskAt d st :: Hs) w) :
    Gets Try.prog 17 #[.pointer (some ⟨d, 0, none⟩)] w fun r w' => r = .bool st.off ∧ Sat R (DiskAt d st :: Hs) w' := by
  have hw0 := hw
  obtain ⟨m, E, hE, hw⟩ := Sat.disk.1 hw
  apply call17
  exact NilP.mk rfl ⟨_, At.own (eqS hw) (by exact ⟨rfl, trivial⟩), rfl, hw0⟩

/-! ### A change -/

/-- Ahead of a change: what it leaves of the counts; its errno, 0: go on. -/
def chg (st : DS) (ok : Bool) : DS × Int :=
  if !ok then (st, 1)
  else if st.off then (st, 5)
  else if (metN st.arm).2 then ({ st with arm := (metN st.arm).1, off := true }, 5)
  else ({ st with arm := (metN st.arm).1, fail := (metN st.fail).1 }, if (metN st.fail).2 then 4 else 0)

/-- The counts are. -/
structure Counts (st : DS) : Prop where
  a0 : -1 ≤ st.arm
  a1 : st.arm < 9223372036854775808
  f0 : -1 ≤ st.fail
  f1 : st.fail < 9223372036854775808

theorem change_spec {d : Nat} {st : DS} {s : Sl} {names : List ByteArray} {make : Value} {Q : Int → World → Prop} (hw : Sat R (DiskAt d st :: Hs) w) (c : Counts st) (hs : Ro R s (names.map Value.string)) (hn : names.length ≤ 1000)
    (hmake : (chg st (names.all nameOk)).2 = 0 → ∀ w, Sat R (DiskAt d (chg st (names.all nameOk)).1 :: Hs) w → CalW Try.prog cl make [] w (fun e w' => ∃ n : Int, e = .returned (.int .i64 n) ∧ Q n w'))
    (herr : ∀ e, (chg st (names.all nameOk)).2 = e → e ≠ 0 → ∀ w, Sat R (DiskAt d (chg st (names.all nameOk)).1 :: Hs) w → Q e w) :
    Gets Try.prog 24 #[.pointer (some ⟨d, 0, none⟩), make, .slice s.a s.len s.cap] w fun r w' => ∃ n : Int, r = .int .i64 n ∧ Q n w' := by
  apply call24
  refine (named_spec hw hs hn).use ?_
  rintro _ w ⟨rfl, hw⟩
  refine ⟨_, rfl, Br.mk (fun h => ?_) (fun h => ?_)⟩
  · simp only [Bool.not_eq_true'] at h
    have e : chg st (names.all nameOk) = (st, 1) := by simp [chg, h]
    rw [e] at herr
    exact ⟨1, rfl, herr 1 rfl (by decide) w hw⟩
  simp only [Bool.not_eq_false'] at h
  rw [h] at hmake herr
  obtain ⟨m, E, hE, hw⟩ := Sat.disk.1 hw
  refine NilP.mk rfl ⟨st.off, At.own (eqS hw) (by exact ⟨rfl, trivial⟩), Br.mk (fun ho => ?_) (fun ho => NilP.mk rfl ?_)⟩
  · have e : chg st true = (st, 5) := by simp [chg, ho]
    rw [e] at herr
    exact ⟨5, rfl, herr 5 rfl (by decide) w (Sat.disk.2 ⟨m, E, hE, hw⟩)⟩
  refine (met_spec hw (i := 4) (n := st.arm) rfl c.a0 c.a1).use ?_
  rintro _ w ⟨rfl, hw⟩
  refine ⟨_, rfl, Br.mk (fun ha => NilP.mk rfl ?_) (fun ha => NilP.mk rfl ?_)⟩
  · have e : chg st true = ({ st with arm := (metN st.arm).1, off := true }, 5) := by simp [chg, ho, ha]
    rw [e] at herr
    refine store_rule hw (by kernel_rfl) rfl (by simp [Value.cells]) fun w hw => ?_
    exact ⟨5, rfl, herr 5 rfl (by decide) w (Sat.disk.2 ⟨m, E, hE, hw⟩)⟩
  refine (met_spec hw (i := 3) (n := st.fail) rfl c.f0 c.f1).use ?_
  rintro _ w ⟨rfl, hw⟩
  have hw : Sat R (DiskAt d { st with arm := (metN st.arm).1, fail := (metN st.fail).1 } :: Hs) w := Sat.disk.2 ⟨m, E, hE, hw⟩
  have e : chg st true = ({ st with arm := (metN st.arm).1, fail := (metN st.fail).1 }, if (metN st.fail).2 then 4 else 0) := by simp [chg, ho, ha]
  rw [e] at herr hmake
  refine ⟨_, rfl, Br.mk (fun hf => ?_) (fun hf => ?_)⟩
  · exact ⟨4, rfl, herr 4 (by simp [hf]) (by decide) w hw⟩
  · refine (hmake (by simp [hf]) w hw).mono ?_
    rintro _ w ⟨n, rfl, hq⟩
    exact ⟨n, rfl, n, rfl, hq⟩

end Go.Proofs.Ytbniilhfbfcegaa
