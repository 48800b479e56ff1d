/- The laws' own functions of chapter 04: does, much, alike. Condition: bounds on lengths. -/
import Derived.Test.YtbniilhfbfcegaaE5
namespace Go.Proofs.Ytbniilhfbfcegaa
open Go Go.VC

variable {R : Cx} {Hs Rest : List HP} {w : World}

structure Act where
  dof : Int
  name : ByteArray
  to : ByteArray
  n : Int
  b : List Int
  keep : List Int
/-- An act, and the slices of it. -/
abbrev AE := Act × Sl × Sl
def rowA (e : AE) : List Value := [.int .i64 e.1.dof, .string e.1.name, .string e.1.to, .int .i64 e.1.n, .slice e.2.1.a e.2.1.len e.2.1.cap, .slice e.2.2.a e.2.2.len e.2.2.cap]
/-- It can be read. -/
structure ActOk (R : Cx) (e : AE) : Prop where
  hb : Ro R e.2.1 (b8 e.1.b)
  hk : RoI R e.2.2 e.1.keep
  n0 : -9223372036854775808 ≤ e.1.n
  n1 : e.1.n < 9223372036854775808
  bd : ∀ x ∈ e.1.b, 0 ≤ x ∧ x < 256
theorem ActOk.add {R : Cx} {h : Heap} {e : AE} (a : ActOk R e) : ActOk (R.add h) e := ⟨a.hb.add, a.hk.add, a.n0, a.n1, a.bd⟩
/-- It is not too long. -/
structure Small (a : Act) : Prop where
  b : a.b.length ≤ 100000
  name : a.name.size ≤ 1000
  to : a.to.size ≤ 1000

def stepD (st : DS) (a : Act) : DS :=
  if a.dof = 0 then (appendD st a.name a.b).1 else if a.dof = 1 then (syncD st a.name).1 else if a.dof = 2 then (renameD st a.name a.to).1 else if a.dof = 3 then (unlinkD st a.name).1
  else if a.dof = 4 then st else if a.dof = 5 then { st with fail := if a.n < 0 then st.fail else a.n } else if a.dof = 6 then { st with arm := if a.n < 0 then st.arm else a.n } else if a.dof = 7 then crashD st a.keep else st
def stepR (st : DS) (a : Act) : DS :=
  if a.dof = 0 then (appendR st a.name a.b).1 else if a.dof = 1 then (syncD st a.name).1 else if a.dof = 2 then (renameR st a.name a.to).1 else if a.dof = 3 then (unlinkD st a.name).1
  else if a.dof = 4 then st else if a.dof = 5 then { st with fail := if a.n < 0 then st.fail else a.n } else if a.dof = 6 then { st with arm := if a.n < 0 then st.arm else a.n } else if a.dof = 7 then crashR st a.keep else st

theorem Rel.step {a b : DS} (h : Rel a b) (x : Act) (hn : x.n < 9223372036854775808) : Rel (stepD a x) (stepR b x) := by
  unfold stepD stepR
  split
  · exact (h.append _ _).1
  split
  · exact (h.sync _).1
  split
  · exact (h.rename _ _).1
  split
  · exact (h.unlink _).1
  split
  · exact h
  split
  · exact h.setFail _ hn
  split
  · exact h.setArm _ hn
  split
  · exact h.crash _
  · exact h

theorem updM_len {β : Type} (k : ByteArray) (g : β → β) (l : List (ByteArray × β)) : (updM k g l).length = l.length := by
  have := congrArg List.length (updM_keys k g l); simpa using this
theorem delM_len {β : Type} (k : ByteArray) (l : List (ByteArray × β)) : (delM k l).length ≤ l.length := (delM_sub k l).length_le
theorem doing_len {st : DS} {ok : Bool} {g : DS → DS × Int} {m : Nat} (h : ∀ st, (g st).1.fs.length ≤ st.fs.length + m) : (doing st ok g).1.fs.length ≤ st.fs.length + m := by
  unfold doing
  have := (chg_fs st ok).1
  split
  · have h2 := h (chg st ok).1; rw [this] at h2; exact h2
  · rw [this]; omega
theorem append_len (st : DS) (k : ByteArray) (xs : List Int) : (appendD st k xs).1.fs.length ≤ st.fs.length + 1 := by
  refine doing_len fun st => ?_
  unfold appendG; split
  · simp
  · simp only [putB, updM_len]
    unfold ensure; split <;> simp
theorem sync_len (st : DS) (k : ByteArray) : (syncD st k).1.fs.length ≤ st.fs.length := by
  refine doing_len (m := 0) fun st => ?_
  unfold syncG; split
  · simp only [updM_len]; simp
  · simp
theorem unlink_len (st : DS) (k : ByteArray) : (unlinkD st k).1.fs.length ≤ st.fs.length := by
  refine doing_len (m := 0) fun st => ?_
  unfold unlinkG; split
  · exact delM_len _ _
  · simp
theorem rename_len (st : DS) (k to : ByteArray) : (renameD st k to).1.fs.length ≤ st.fs.length + 1 := by
  refine doing_len fun st => ?_
  unfold renameG; split
  · split
    · simp
    · have h1 := delM_len k (delM to st.fs); have h2 := delM_len to st.fs
      simp only [List.length_append, List.length_cons, List.length_nil]; omega
  · simp
theorem crash_len (st : DS) (keep : List Int) : (crashD st keep).fs.length = st.fs.length := by
  have := congrArg List.length (crashL_keys (namesOf st.fs) keep st.fs); simpa [crashD] using this
theorem step_len (st : DS) (a : Act) : (stepD st a).fs.length ≤ st.fs.length + 1 := by
  unfold stepD
  split
  · exact append_len _ _ _
  split
  · exact Nat.le_succ_of_le (sync_len _ _)
  split
  · exact rename_len _ _ _
  split
  · exact Nat.le_succ_of_le (unlink_len _ _)
  split
  · simp
  split
  · simp
  split
  · simp
  split
  · rw [crash_len]; omega
  · simp

/-- The string of bytes that one owns. -/
theorem convS_own {S : World → Prop} {s : Sl} {xs : List Int} {Hs' : List HP} {R' : Cx} (hS : ∀ w, S w → Sat R' Hs' w) [t : Take (Own s 5 (b8 xs)) Hs' Rest] (hb : xs.length ≤ 9223372036854775807) :
    ∀ w', S w' → (convert 31 9 (.slice s.a s.len s.cap)).run Try.prog w' = .ok (.string (VC.strOf xs)) w' := by
  intro w' h
  obtain ⟨R2, hr, _, hw, _⟩ := Own.lend ((hS w' h).perm t.perm) (by simpa using hb)
  exact convS_ro Try.underlying31 Try.underlying5 Try.underlying9 hw hr

theorem readD_len {st : DS} (i : Inv st) (k : ByteArray) : ((readD st k).1.length : Int) ≤ 16777216 := by
  have r1 := i.r1; have hf := i.full
  unfold readD
  split
  · simp
  split
  · simp
  split
  · simp
  · rename_i f hg; have := total_le hg; simp only; omega

theorem does_spec {d r : Nat} {st sr : DS} {e : AE} (i : Inv st) (ir : Inv sr) (hn : st.fs.length ≤ 100000) (hnr : sr.fs.length ≤ 100000) (ha : ActOk R e) (hs : Small e.1) (hw : Sat R (DiskAt d st :: RefAt r sr :: Hs) w) :
    Gets Try.prog 21 #[.pointer (some ⟨d, 0, none⟩), .pointer (some ⟨r, 0, none⟩), .agg #[.int .i64 e.1.dof, .string e.1.name, .string e.1.to, .int .i64 e.1.n, .slice e.2.1.a e.2.1.len e.2.1.cap, .slice e.2.2.a e.2.2.len e.2.2.cap]] w
      fun v w' => ∃ b, v = .bool b ∧ (Rel st sr → b = true) ∧ Sat R (DiskAt d (stepD st e.1) :: RefAt r (stepR sr e.1) :: Hs) w' := by
  apply call21
  refine new_rule hw fun ba w hw => ?_
  obtain ⟨⟨dof, name, to, n, b, keep⟩, sb, sk⟩ := e
  obtain ⟨s1, s2, s3⟩ := hs
  have hb := ha.hb; have hk := ha.hk; have n0 := ha.n0; have n1 := ha.n1
  simp only at *
  have hw : Sat R (DiskAt d st :: RefAt r sr :: pts ba (.cells [.int .i64 dof, .string name, .string to, .int .i64 n, .slice sb.a sb.len sb.cap, .slice sk.a sk.len sk.cap].toArray 43 (0, 0)) :: Hs) w := hw.arr
  refine ⟨_, At.own (eqS hw) (by exact ⟨rfl, trivial⟩), ?_⟩
  unfold stepD stepR
  simp only
  (first | with_reducible refine Br.d (fun h => ?_) (fun h => ?_) | with_reducible refine Br.nd (fun h => ?_) (fun h => ?_) | with_reducible refine Br.e (fun h => ?_) (fun h => ?_) | with_reducible refine Br.ne (fun h => ?_) (fun h => ?_) | with_reducible refine Br.nne (fun h => ?_) (fun h => ?_) | with_reducible refine Br.se (fun h => ?_) (fun h => ?_) | with_reducible refine Br.sne (fun h => ?_) (fun h => ?_) | with_reducible refine Br.nb (fun h => ?_) (fun h => ?_) | with_reducible refine Br.mk (fun h => ?_) (fun h => ?_) | refine Br.d (fun h => ?_) (fun h => ?_) | refine Br.nd (fun h => ?_) (fun h => ?_) | refine Br.e (fun h => ?_) (fun h => ?_) | refine Br.ne (fun h => ?_) (fun h => ?_) | refine Br.nne (fun h => ?_) (fun h => ?_) | refine Br.se (fun h => ?_) (fun h => ?_) | refine Br.mk (fun h => ?_) (fun h => ?_))
  · rw [if_pos h, if_pos h]
    refine ⟨_, At.own (eqS hw) (by exact ⟨rfl, trivial⟩), _, At.own (eqS hw) (by exact ⟨rfl, trivial⟩), (append_spec i hb (by omega) hw).use ?_⟩
    rintro _ w ⟨rfl, hw⟩
    refine ⟨_, rfl, _, At.own (eqS hw) (by exact ⟨rfl, trivial⟩), _, At.own (eqS hw) (by exact ⟨rfl, trivial⟩), (appendR_spec ir (by omega) (by omega) hb (by omega) hw.swap).use ?_⟩
    rintro _ w ⟨rfl, hw⟩
    exact ⟨_, rfl, _, rfl, fun hr => by rw [(hr.append name b).2]; simp, hw.swap.cons fun _ h => h.cons fun _ h => h.drop⟩
  rename_i h0
  rw [if_neg h, if_neg h]
  (first | with_reducible refine Br.d (fun h => ?_) (fun h => ?_) | with_reducible refine Br.nd (fun h => ?_) (fun h => ?_) | with_reducible refine Br.e (fun h => ?_) (fun h => ?_) | with_reducible refine Br.ne (fun h => ?_) (fun h => ?_) | with_reducible refine Br.nne (fun h => ?_) (fun h => ?_) | with_reducible refine Br.se (fun h => ?_) (fun h => ?_) | with_reducible refine Br.sne (fun h => ?_) (fun h => ?_) | with_reducible refine Br.nb (fun h => ?_) (fun h => ?_) | with_reducible refine Br.mk (fun h => ?_) (fun h => ?_) | refine Br.d (fun h => ?_) (fun h => ?_) | refine Br.nd (fun h => ?_) (fun h => ?_) | refine Br.e (fun h => ?_) (fun h => ?_) | refine Br.ne (fun h => ?_) (fun h => ?_) | refine Br.nne (fun h => ?_) (fun h => ?_) | refine Br.se (fun h => ?_) (fun h => ?_) | refine Br.mk (fun h => ?_) (fun h => ?_))
  · rw [if_pos h, if_pos h]
    refine ⟨_, At.own (eqS hw) (by exact ⟨rfl, trivial⟩), (sync_spec i hw).use ?_⟩
    rintro _ w ⟨rfl, hw⟩
    refine ⟨_, rfl, _, At.own (eqS hw) (by exact ⟨rfl, trivial⟩), (syncR_spec ir (by omega) (by omega) hw.swap).use ?_⟩
    rintro _ w ⟨rfl, hw⟩
    exact ⟨_, rfl, _, rfl, fun hr => by rw [(hr.sync name).2]; simp, hw.swap.cons fun _ h => h.cons fun _ h => h.drop⟩
  rw [if_neg h, if_neg h]
  (first | with_reducible refine Br.d (fun h => ?_) (fun h => ?_) | with_reducible refine Br.nd (fun h => ?_) (fun h => ?_) | with_reducible refine Br.e (fun h => ?_) (fun h => ?_) | with_reducible refine Br.ne (fun h => ?_) (fun h => ?_) | with_reducible refine Br.nne (fun h => ?_) (fun h => ?_) | with_reducible refine Br.se (fun h => ?_) (fun h => ?_) | with_reducible refine Br.sne (fun h => ?_) (fun h => ?_) | with_reducible refine Br.nb (fun h => ?_) (fun h => ?_) | with_reducible refine Br.mk (fun h => ?_) (fun h => ?_) | refine Br.d (fun h => ?_) (fun h => ?_) | refine Br.nd (fun h => ?_) (fun h => ?_) | refine Br.e (fun h => ?_) (fun h => ?_) | refine Br.ne (fun h => ?_) (fun h => ?_) | refine Br.nne (fun h => ?_) (fun h => ?_) | refine Br.se (fun h => ?_) (fun h => ?_) | refine Br.mk (fun h => ?_) (fun h => ?_))
  · rw [if_pos h, if_pos h]
    refine ⟨_, At.own (eqS hw) (by exact ⟨rfl, trivial⟩), _, At.own (eqS hw) (by exact ⟨rfl, trivial⟩), (rename_spec i hw).use ?_⟩
    rintro _ w ⟨rfl, hw⟩
    refine ⟨_, rfl, _, At.own (eqS hw) (by exact ⟨rfl, trivial⟩), _, At.own (eqS hw) (by exact ⟨rfl, trivial⟩), (renameR_spec ir (by omega) (by omega) (by omega) hw.swap).use ?_⟩
    rintro _ w ⟨rfl, hw⟩
    exact ⟨_, rfl, _, rfl, fun hr => by rw [(hr.rename name to).2]; simp, hw.swap.cons fun _ h => h.cons fun _ h => h.drop⟩
  rw [if_neg h, if_neg h]
  (first | with_reducible refine Br.d (fun h => ?_) (fun h => ?_) | with_reducible refine Br.nd (fun h => ?_) (fun h => ?_) | with_reducible refine Br.e (fun h => ?_) (fun h => ?_) | with_reducible refine Br.ne (fun h => ?_) (fun h => ?_) | with_reducible refine Br.nne (fun h => ?_) (fun h => ?_) | with_reducible refine Br.se (fun h => ?_) (fun h => ?_) | with_reducible refine Br.sne (fun h => ?_) (fun h => ?_) | with_reducible refine Br.nb (fun h => ?_) (fun h => ?_) | with_reducible refine Br.mk (fun h => ?_) (fun h => ?_) | refine Br.d (fun h => ?_) (fun h => ?_) | refine Br.nd (fun h => ?_) (fun h => ?_) | refine Br.e (fun h => ?_) (fun h => ?_) | refine Br.ne (fun h => ?_) (fun h => ?_) | refine Br.nne (fun h => ?_) (fun h => ?_) | refine Br.se (fun h => ?_) (fun h => ?_) | refine Br.mk (fun h => ?_) (fun h => ?_))
  · rw [if_pos h, if_pos h]
    refine ⟨_, At.own (eqS hw) (by exact ⟨rfl, trivial⟩), (unlink_spec i hw).use ?_⟩
    rintro _ w ⟨rfl, hw⟩
    refine ⟨_, rfl, _, At.own (eqS hw) (by exact ⟨rfl, trivial⟩), (unlinkR_spec ir (by omega) (by omega) hw.swap).use ?_⟩
    rintro _ w ⟨rfl, hw⟩
    exact ⟨_, rfl, _, rfl, fun hr => by rw [(hr.unlink name).2]; simp, hw.swap.cons fun _ h => h.cons fun _ h => h.drop⟩
  rw [if_neg h, if_neg h]
  (first | with_reducible refine Br.d (fun h => ?_) (fun h => ?_) | with_reducible refine Br.nd (fun h => ?_) (fun h => ?_) | with_reducible refine Br.e (fun h => ?_) (fun h => ?_) | with_reducible refine Br.ne (fun h => ?_) (fun h => ?_) | with_reducible refine Br.nne (fun h => ?_) (fun h => ?_) | with_reducible refine Br.se (fun h => ?_) (fun h => ?_) | with_reducible refine Br.sne (fun h => ?_) (fun h => ?_) | with_reducible refine Br.nb (fun h => ?_) (fun h => ?_) | with_reducible refine Br.mk (fun h => ?_) (fun h => ?_) | refine Br.d (fun h => ?_) (fun h => ?_) | refine Br.nd (fun h => ?_) (fun h => ?_) | refine Br.e (fun h => ?_) (fun h => ?_) | refine Br.ne (fun h => ?_) (fun h => ?_) | refine Br.nne (fun h => ?_) (fun h => ?_) | refine Br.se (fun h => ?_) (fun h => ?_) | refine Br.mk (fun h => ?_) (fun h => ?_))
  · rw [if_pos h, if_pos h]
    refine ⟨_, At.own (eqS hw) (by exact ⟨rfl, trivial⟩), (read_spec i hw).use ?_⟩
    rintro _ w ⟨t1, rfl, hw⟩
    have hw := hw.take (RefAt r sr)
    refine ⟨_, _, rfl, _, At.own (eqS hw) (by exact ⟨rfl, trivial⟩), (readR_spec ir (by omega) (by omega) hw).use ?_⟩
    rintro _ w ⟨t2, rfl, hw⟩
    have l1 := readD_len i name
    have l2 := readD_len ir name
    refine ⟨_, _, rfl, _, convS_own (xs := (readD st name).1) (eqS hw) (by omega), _, convS_own (xs := (readD sr name).1) (eqS hw) (by omega), ?_⟩
    have hw2 := hw.take (Own t1 5 (b8 (readD st name).1))
    have hw3 : Sat R (DiskAt d st :: RefAt r sr :: Hs) w := by
      have := hw2.drop.drop
      exact this.swap.cons fun _ h => h.cons fun _ h => h.drop
    (first | with_reducible refine Br.d (fun h => ?_) (fun h => ?_) | with_reducible refine Br.nd (fun h => ?_) (fun h => ?_) | with_reducible refine Br.e (fun h => ?_) (fun h => ?_) | with_reducible refine Br.ne (fun h => ?_) (fun h => ?_) | with_reducible refine Br.nne (fun h => ?_) (fun h => ?_) | with_reducible refine Br.se (fun h => ?_) (fun h => ?_) | with_reducible refine Br.sne (fun h => ?_) (fun h => ?_) | with_reducible refine Br.nb (fun h => ?_) (fun h => ?_) | with_reducible refine Br.mk (fun h => ?_) (fun h => ?_) | refine Br.d (fun h => ?_) (fun h => ?_) | refine Br.nd (fun h => ?_) (fun h => ?_) | refine Br.e (fun h => ?_) (fun h => ?_) | refine Br.ne (fun h => ?_) (fun h => ?_) | refine Br.nne (fun h => ?_) (fun h => ?_) | refine Br.se (fun h => ?_) (fun h => ?_) | refine Br.mk (fun h => ?_) (fun h => ?_))
    · exact ⟨_, rfl, fun hr => by rw [hr.read]; simp, hw3⟩
    · exact ⟨_, rfl, fun hr => absurd (by rw [hr.read]) h, hw3⟩
  rw [if_neg h, if_neg h]
  (first | with_reducible refine Br.d (fun h => ?_) (fun h => ?_) | with_reducible refine Br.nd (fun h => ?_) (fun h => ?_) | with_reducible refine Br.e (fun h => ?_) (fun h => ?_) | with_reducible refine Br.ne (fun h => ?_) (fun h => ?_) | with_reducible refine Br.nne (fun h => ?_) (fun h => ?_) | with_reducible refine Br.se (fun h => ?_) (fun h => ?_) | with_reducible refine Br.sne (fun h => ?_) (fun h => ?_) | with_reducible refine Br.nb (fun h => ?_) (fun h => ?_) | with_reducible refine Br.mk (fun h => ?_) (fun h => ?_) | refine Br.d (fun h => ?_) (fun h => ?_) | refine Br.nd (fun h => ?_) (fun h => ?_) | refine Br.e (fun h => ?_) (fun h => ?_) | refine Br.ne (fun h => ?_) (fun h => ?_) | refine Br.nne (fun h => ?_) (fun h => ?_) | refine Br.se (fun h => ?_) (fun h => ?_) | refine Br.mk (fun h => ?_) (fun h => ?_))
  · rw [if_pos h, if_pos h]
    refine ⟨_, At.own (eqS hw) (by exact ⟨rfl, trivial⟩), (fail_spec n hw).use ?_⟩
    rintro _ w ⟨rfl, hw⟩
    refine ⟨_, rfl, _, At.own (eqS hw) (by exact ⟨rfl, trivial⟩), (failR_spec n hw.swap).use ?_⟩
    rintro _ w ⟨rfl, hw⟩
    exact ⟨_, rfl, _, rfl, fun hr => by simp, hw.swap.cons fun _ h => h.cons fun _ h => h.drop⟩
  rw [if_neg h, if_neg h]
  (first | with_reducible refine Br.d (fun h => ?_) (fun h => ?_) | with_reducible refine Br.nd (fun h => ?_) (fun h => ?_) | with_reducible refine Br.e (fun h => ?_) (fun h => ?_) | with_reducible refine Br.ne (fun h => ?_) (fun h => ?_) | with_reducible refine Br.nne (fun h => ?_) (fun h => ?_) | with_reducible refine Br.se (fun h => ?_) (fun h => ?_) | with_reducible refine Br.sne (fun h => ?_) (fun h => ?_) | with_reducible refine Br.nb (fun h => ?_) (fun h => ?_) | with_reducible refine Br.mk (fun h => ?_) (fun h => ?_) | refine Br.d (fun h => ?_) (fun h => ?_) | refine Br.nd (fun h => ?_) (fun h => ?_) | refine Br.e (fun h => ?_) (fun h => ?_) | refine Br.ne (fun h => ?_) (fun h => ?_) | refine Br.nne (fun h => ?_) (fun h => ?_) | refine Br.se (fun h => ?_) (fun h => ?_) | refine Br.mk (fun h => ?_) (fun h => ?_))
  · rw [if_pos h, if_pos h]
    refine ⟨_, At.own (eqS hw) (by exact ⟨rfl, trivial⟩), (arm_spec n hw).use ?_⟩
    rintro _ w ⟨rfl, hw⟩
    refine ⟨_, rfl, _, At.own (eqS hw) (by exact ⟨rfl, trivial⟩), (armR_spec n hw.swap).use ?_⟩
    rintro _ w ⟨rfl, hw⟩
    exact ⟨_, rfl, _, rfl, fun hr => by simp, hw.swap.cons fun _ h => h.cons fun _ h => h.drop⟩
  rw [if_neg h, if_neg h]
  (first | with_reducible refine Br.d (fun h => ?_) (fun h => ?_) | with_reducible refine Br.nd (fun h => ?_) (fun h => ?_) | with_reducible refine Br.e (fun h => ?_) (fun h => ?_) | with_reducible refine Br.ne (fun h => ?_) (fun h => ?_) | with_reducible refine Br.nne (fun h => ?_) (fun h => ?_) | with_reducible refine Br.se (fun h => ?_) (fun h => ?_) | with_reducible refine Br.sne (fun h => ?_) (fun h => ?_) | with_reducible refine Br.nb (fun h => ?_) (fun h => ?_) | with_reducible refine Br.mk (fun h => ?_) (fun h => ?_) | refine Br.d (fun h => ?_) (fun h => ?_) | refine Br.nd (fun h => ?_) (fun h => ?_) | refine Br.e (fun h => ?_) (fun h => ?_) | refine Br.ne (fun h => ?_) (fun h => ?_) | refine Br.nne (fun h => ?_) (fun h => ?_) | refine Br.se (fun h => ?_) (fun h => ?_) | refine Br.mk (fun h => ?_) (fun h => ?_))
  · rw [if_pos h, if_pos h]
    refine ⟨_, At.own (eqS hw) (by exact ⟨rfl, trivial⟩), (crash_spec i hk (by omega) hw).use ?_⟩
    rintro _ w ⟨rfl, hw⟩
    refine ⟨rfl, _, At.own (eqS hw) (by exact ⟨rfl, trivial⟩), (crashR_spec ir hk (by omega) hw.swap).use ?_⟩
    rintro _ w ⟨rfl, hw⟩
    exact ⟨rfl, _, rfl, fun hr => rfl, hw.swap.cons fun _ h => h.cons fun _ h => h.drop⟩
  · rw [if_neg h, if_neg h]
    exact ⟨_, rfl, fun hr => rfl, hw.cons fun _ h => h.cons fun _ h => h.drop⟩

/-! ### much -/
theorem much_spec {l : Sl} {acts : List AE} (hl : RoN 6 R l (acts.map rowA)) (ha : ∀ e ∈ acts, ActOk R e) (hw : Sat R Hs w) :
    Gets Try.prog 20 #[.slice l.a l.len l.cap] w fun v w' => ∃ m, v = .bool m ∧ (m = false → ∀ (j : Nat) (hj : j < acts.length), j < 300 → Small acts[j].1) ∧ Sat R Hs w' := by
  have hll : l.len = acts.length := by have := hl.len; simpa using this
  apply call20
  refine ⟨fun n i w => ∃ k : Nat, i = k ∧ k ≤ acts.length ∧ k ≤ 300 ∧ 0 ≤ n ∧ n ≤ 200000 ∧ (∀ (j : Nat) (hj : j < acts.length), j < k → Small acts[j].1) ∧ Sat R Hs w, fun n i _ => acts.length - i.toNat, ⟨0, rfl, Nat.zero_le _, by omega, by omega, by omega, fun j _ hj => by omega, hw⟩, ?_⟩
  rintro z n _ w ⟨k, rfl, hk, hk3, h0, h1, hsm, hw⟩
  refine ⟨fun w => k < acts.length ∧ k < 300 ∧ Sat R Hs w, ?_, ?_⟩
  · (first | with_reducible refine Br.d (fun h => ?_) (fun h => ?_) | with_reducible refine Br.nd (fun h => ?_) (fun h => ?_) | with_reducible refine Br.e (fun h => ?_) (fun h => ?_) | with_reducible refine Br.ne (fun h => ?_) (fun h => ?_) | with_reducible refine Br.nne (fun h => ?_) (fun h => ?_) | with_reducible refine Br.se (fun h => ?_) (fun h => ?_) | with_reducible refine Br.sne (fun h => ?_) (fun h => ?_) | with_reducible refine Br.nb (fun h => ?_) (fun h => ?_) | with_reducible refine Br.mk (fun h => ?_) (fun h => ?_) | refine Br.d (fun h => ?_) (fun h => ?_) | refine Br.nd (fun h => ?_) (fun h => ?_) | refine Br.e (fun h => ?_) (fun h => ?_) | refine Br.ne (fun h => ?_) (fun h => ?_) | refine Br.nne (fun h => ?_) (fun h => ?_) | refine Br.se (fun h => ?_) (fun h => ?_) | refine Br.mk (fun h => ?_) (fun h => ?_))
    · (first | with_reducible refine Br.d (fun h => ?_) (fun h => ?_) | with_reducible refine Br.nd (fun h => ?_) (fun h => ?_) | with_reducible refine Br.e (fun h => ?_) (fun h => ?_) | with_reducible refine Br.ne (fun h => ?_) (fun h => ?_) | with_reducible refine Br.nne (fun h => ?_) (fun h => ?_) | with_reducible refine Br.se (fun h => ?_) (fun h => ?_) | with_reducible refine Br.sne (fun h => ?_) (fun h => ?_) | with_reducible refine Br.nb (fun h => ?_) (fun h => ?_) | with_reducible refine Br.mk (fun h => ?_) (fun h => ?_) | refine Br.d (fun h => ?_) (fun h => ?_) | refine Br.nd (fun h => ?_) (fun h => ?_) | refine Br.e (fun h => ?_) (fun h => ?_) | refine Br.ne (fun h => ?_) (fun h => ?_) | refine Br.nne (fun h => ?_) (fun h => ?_) | refine Br.se (fun h => ?_) (fun h => ?_) | refine Br.mk (fun h => ?_) (fun h => ?_))
      · have a1 : k < acts.length := by omega
        have a2 : k < 300 := by omega
        exact ⟨a1, a2, hw⟩
      · exact ⟨_, rfl, fun _ j hj h3 => hsm j hj (by omega), hw⟩
    · exact ⟨_, rfl, fun _ j hj h3 => hsm j hj (by omega), hw⟩
  rintro z w ⟨hk1, hk2, hw⟩
  have hr : ReadsN 6 l (acts.map rowA) (fun w' => w' = w) := hl.reads (eqS hw)
  have hbl : acts[k].2.1.len = acts[k].1.b.length := by have := (ha acts[k] (List.getElem_mem _)).hb.len; simpa using this
  refine ⟨fun w => Small acts[k].1 ∧ Sat R Hs w, ?_, ?_⟩
  · refine hr.rngM hk1 fun a ha el => ⟨_, el.f 4 (by exact ⟨rfl, trivial⟩), ?_⟩
    (first | with_reducible refine Br.d (fun h => ?_) (fun h => ?_) | with_reducible refine Br.nd (fun h => ?_) (fun h => ?_) | with_reducible refine Br.e (fun h => ?_) (fun h => ?_) | with_reducible refine Br.ne (fun h => ?_) (fun h => ?_) | with_reducible refine Br.nne (fun h => ?_) (fun h => ?_) | with_reducible refine Br.se (fun h => ?_) (fun h => ?_) | with_reducible refine Br.sne (fun h => ?_) (fun h => ?_) | with_reducible refine Br.nb (fun h => ?_) (fun h => ?_) | with_reducible refine Br.mk (fun h => ?_) (fun h => ?_) | refine Br.d (fun h => ?_) (fun h => ?_) | refine Br.nd (fun h => ?_) (fun h => ?_) | refine Br.e (fun h => ?_) (fun h => ?_) | refine Br.ne (fun h => ?_) (fun h => ?_) | refine Br.nne (fun h => ?_) (fun h => ?_) | refine Br.se (fun h => ?_) (fun h => ?_) | refine Br.mk (fun h => ?_) (fun h => ?_))
    · exact ⟨_, rfl, (fun h => by cases h), hw⟩
    refine hr.rngM hk1 fun a ha el => ⟨_, el.f 1 (by exact ⟨rfl, trivial⟩), ?_⟩
    have hb := h
    (first | with_reducible refine Br.d (fun h => ?_) (fun h => ?_) | with_reducible refine Br.nd (fun h => ?_) (fun h => ?_) | with_reducible refine Br.e (fun h => ?_) (fun h => ?_) | with_reducible refine Br.ne (fun h => ?_) (fun h => ?_) | with_reducible refine Br.nne (fun h => ?_) (fun h => ?_) | with_reducible refine Br.se (fun h => ?_) (fun h => ?_) | with_reducible refine Br.sne (fun h => ?_) (fun h => ?_) | with_reducible refine Br.nb (fun h => ?_) (fun h => ?_) | with_reducible refine Br.mk (fun h => ?_) (fun h => ?_) | refine Br.d (fun h => ?_) (fun h => ?_) | refine Br.nd (fun h => ?_) (fun h => ?_) | refine Br.e (fun h => ?_) (fun h => ?_) | refine Br.ne (fun h => ?_) (fun h => ?_) | refine Br.nne (fun h => ?_) (fun h => ?_) | refine Br.se (fun h => ?_) (fun h => ?_) | refine Br.mk (fun h => ?_) (fun h => ?_))
    · exact ⟨_, rfl, (fun h => by cases h), hw⟩
    have hnm := h
    refine hr.rngM hk1 fun a ha el => ⟨_, el.f 2 (by exact ⟨rfl, trivial⟩), ?_⟩
    (first | with_reducible refine Br.d (fun h => ?_) (fun h => ?_) | with_reducible refine Br.nd (fun h => ?_) (fun h => ?_) | with_reducible refine Br.e (fun h => ?_) (fun h => ?_) | with_reducible refine Br.ne (fun h => ?_) (fun h => ?_) | with_reducible refine Br.nne (fun h => ?_) (fun h => ?_) | with_reducible refine Br.se (fun h => ?_) (fun h => ?_) | with_reducible refine Br.sne (fun h => ?_) (fun h => ?_) | with_reducible refine Br.nb (fun h => ?_) (fun h => ?_) | with_reducible refine Br.mk (fun h => ?_) (fun h => ?_) | refine Br.d (fun h => ?_) (fun h => ?_) | refine Br.nd (fun h => ?_) (fun h => ?_) | refine Br.e (fun h => ?_) (fun h => ?_) | refine Br.ne (fun h => ?_) (fun h => ?_) | refine Br.nne (fun h => ?_) (fun h => ?_) | refine Br.se (fun h => ?_) (fun h => ?_) | refine Br.mk (fun h => ?_) (fun h => ?_))
    · exact ⟨_, rfl, (fun h => by cases h), hw⟩
    · exact ⟨⟨by omega, by omega, by omega⟩, hw⟩
  rintro z w ⟨hsk, hw⟩
  have hr : ReadsN 6 l (acts.map rowA) (fun w' => w' = w) := hl.reads (eqS hw)
  have hb2 := hsk.b
  refine hr.rngM hk1 fun a ha el => ⟨_, el.f 4 (by exact ⟨rfl, trivial⟩), ?_⟩
  rw [wrap64 (by omega) (by omega), wrap64 (by omega) (by omega)]
  (first | with_reducible refine Br.d (fun h => ?_) (fun h => ?_) | with_reducible refine Br.nd (fun h => ?_) (fun h => ?_) | with_reducible refine Br.e (fun h => ?_) (fun h => ?_) | with_reducible refine Br.ne (fun h => ?_) (fun h => ?_) | with_reducible refine Br.nne (fun h => ?_) (fun h => ?_) | with_reducible refine Br.se (fun h => ?_) (fun h => ?_) | with_reducible refine Br.sne (fun h => ?_) (fun h => ?_) | with_reducible refine Br.nb (fun h => ?_) (fun h => ?_) | with_reducible refine Br.mk (fun h => ?_) (fun h => ?_) | refine Br.d (fun h => ?_) (fun h => ?_) | refine Br.nd (fun h => ?_) (fun h => ?_) | refine Br.e (fun h => ?_) (fun h => ?_) | refine Br.ne (fun h => ?_) (fun h => ?_) | refine Br.nne (fun h => ?_) (fun h => ?_) | refine Br.se (fun h => ?_) (fun h => ?_) | refine Br.mk (fun h => ?_) (fun h => ?_))
  · exact ⟨_, rfl, (fun h => by cases h), hw⟩
  · refine ⟨⟨k + 1, by omega, by omega, by omega, by omega, by omega, fun j hj hjk => ?_, hw⟩, by dsimp only; omega⟩
    by_cases hjk2 : j = k
    · subst hjk2; exact hsk
    · exact hsm j hj (by omega)

/-! ### alike -/
theorem Rel.len {a b : DS} (h : Rel a b) : a.fs.length = b.fs.length := h.perm.length_eq

theorem alike_spec {d r : Nat} {st sr : DS} (h : Rel st sr) (hn : st.fs.length ≤ 100000) (hw : Sat R (DiskAt d st :: RefAt r sr :: Hs) w) :
    Gets Try.prog 23 #[.pointer (some ⟨d, 0, none⟩), .pointer (some ⟨r, 0, none⟩)] w fun v w' => v = .bool true ∧ Sat R (DiskAt d st :: RefAt r sr :: Hs) w' := by
  have i := h.inv
  have ir := h.invR
  have hlen := h.len
  have r1 := ir.r1; have hfull := ir.full
  apply call23
  refine (names_spec i (by omega) hw).use ?_
  rintro _ w ⟨t1, rfl, hw⟩
  refine ⟨t1, rfl, ?_⟩
  have hw := hw.take (RefAt r sr)
  obtain ⟨s, E, hE, hw⟩ := Sat.ref.1 hw
  refine (namesR_spec hE (by rw [← erR_len, hE]; omega) hw).use ?_
  rintro _ w ⟨t2, rfl, hw⟩
  refine ⟨t2, rfl, ?_⟩
  rw [h.names] at hw
  generalize hnames : sr.fs.map (·.1) = names at hw
  have hnl : names.length = sr.fs.length := by rw [← hnames]; simp
  have hw : Sat R (Own t1 9 (names.map Value.string) :: Own t2 9 (names.map Value.string) :: DiskAt d st :: RO r s E sr Hs) w := hw.arr
  have hl1 : t1.len = names.length := by have := Own.len hw; simpa using this
  have hl2 : t2.len = names.length := by have := Own.len hw.swap; simpa using this
  refine ⟨fun w => Sat R (Own t1 9 (names.map Value.string) :: Own t2 9 (names.map Value.string) :: DiskAt d st :: RO r s E sr Hs) w, ?_, ?_⟩
  · refine drw_rule hw fun w hw => ?_
    rw [hl1, hl2]
    (first | with_reducible refine Br.d (fun h => ?_) (fun h => ?_) | with_reducible refine Br.nd (fun h => ?_) (fun h => ?_) | with_reducible refine Br.e (fun h => ?_) (fun h => ?_) | with_reducible refine Br.ne (fun h => ?_) (fun h => ?_) | with_reducible refine Br.nne (fun h => ?_) (fun h => ?_) | with_reducible refine Br.se (fun h => ?_) (fun h => ?_) | with_reducible refine Br.sne (fun h => ?_) (fun h => ?_) | with_reducible refine Br.nb (fun h => ?_) (fun h => ?_) | with_reducible refine Br.mk (fun h => ?_) (fun h => ?_) | refine Br.d (fun h => ?_) (fun h => ?_) | refine Br.nd (fun h => ?_) (fun h => ?_) | refine Br.e (fun h => ?_) (fun h => ?_) | refine Br.ne (fun h => ?_) (fun h => ?_) | refine Br.nne (fun h => ?_) (fun h => ?_) | refine Br.se (fun h => ?_) (fun h => ?_) | refine Br.mk (fun h => ?_) (fun h => ?_))
    · exact absurd rfl h
    have hw2 := hw.take (DiskAt d st)
    refine (size_spec hw2).use ?_
    rintro _ w ⟨rfl, hw⟩
    refine ⟨_, rfl, hw.arr, ?_⟩
    have hw : Sat R (RO r s E sr (DiskAt d st :: Own t1 9 (names.map Value.string) :: Own t2 9 (names.map Value.string) :: Hs)) w := hw.arr
    refine (sizeR_spec hE (by rw [← erR_len, hE]; omega) (by omega) hw).use ?_
    rintro _ w ⟨rfl, hw⟩
    refine ⟨_, rfl, hw.arr, ?_⟩
    have htot : total st.fs = total sr.fs := Rel.total (by assumption)
    rw [htot]
    (first | with_reducible refine Br.d (fun h => ?_) (fun h => ?_) | with_reducible refine Br.nd (fun h => ?_) (fun h => ?_) | with_reducible refine Br.e (fun h => ?_) (fun h => ?_) | with_reducible refine Br.ne (fun h => ?_) (fun h => ?_) | with_reducible refine Br.nne (fun h => ?_) (fun h => ?_) | with_reducible refine Br.se (fun h => ?_) (fun h => ?_) | with_reducible refine Br.sne (fun h => ?_) (fun h => ?_) | with_reducible refine Br.nb (fun h => ?_) (fun h => ?_) | with_reducible refine Br.mk (fun h => ?_) (fun h => ?_) | refine Br.d (fun h => ?_) (fun h => ?_) | refine Br.nd (fun h => ?_) (fun h => ?_) | refine Br.e (fun h => ?_) (fun h => ?_) | refine Br.ne (fun h => ?_) (fun h => ?_) | refine Br.nne (fun h => ?_) (fun h => ?_) | refine Br.se (fun h => ?_) (fun h => ?_) | refine Br.mk (fun h => ?_) (fun h => ?_))
    · exact absurd rfl h
    repeat (first | refine NilP.mk rfl ?_ | refine ⟨_, At.own selfS (by exact ⟨rfl, trivial⟩), ?_⟩ | refine ⟨_, At.own (eqS hw) (by exact ⟨rfl, trivial⟩), ?_⟩ | refine ⟨_, (by rw [add_off]; exact At.own selfS (by exact ⟨rfl, trivial⟩)), ?_⟩ | refine ⟨_, (by rw [add_off]; exact At.own (eqS hw) (by exact ⟨rfl, trivial⟩)), ?_⟩)
    have hw2 : Sat R (DiskAt d st :: RO r s E sr (Own t1 9 (names.map Value.string) :: Own t2 9 (names.map Value.string) :: Hs)) w := hw.arr
    refine (off_spec hw2).use ?_
    rintro _ w ⟨rfl, hw⟩
    refine ⟨_, rfl, hw.arr, ?_⟩
    have hoff : st.off = sr.off := Rel.off (by assumption)
    rw [hoff]
    exact Br.f (by simp) hw.arr
  intro z w hw
  obtain ⟨R1, hr1, up1, hw, back1⟩ := Own.lend hw (by rw [List.length_map]; omega)
  obtain ⟨R2, hr2, up2, hw, back2⟩ := Own.lend hw (by rw [List.length_map]; omega)
  have hr1 := up2 _ _ hr1
  have hw : Sat R2 (DiskAt d st :: RefAt r sr :: Hs) w := hw.cons fun _ h => RO.shut hE h
  refine ⟨fun x w => ∃ k : Nat, x = k ∧ k ≤ names.length ∧ Sat R2 (DiskAt d st :: RefAt r sr :: Hs) w, fun x _ => names.length - x.toNat, ⟨0, rfl, Nat.zero_le _, hw⟩, ?_⟩
  rintro z _ w ⟨k, rfl, hk, hw⟩
  (first | with_reducible refine Br.d (fun h => ?_) (fun h => ?_) | with_reducible refine Br.nd (fun h => ?_) (fun h => ?_) | with_reducible refine Br.e (fun h => ?_) (fun h => ?_) | with_reducible refine Br.ne (fun h => ?_) (fun h => ?_) | with_reducible refine Br.nne (fun h => ?_) (fun h => ?_) | with_reducible refine Br.se (fun h => ?_) (fun h => ?_) | with_reducible refine Br.sne (fun h => ?_) (fun h => ?_) | with_reducible refine Br.nb (fun h => ?_) (fun h => ?_) | with_reducible refine Br.mk (fun h => ?_) (fun h => ?_) | refine Br.d (fun h => ?_) (fun h => ?_) | refine Br.nd (fun h => ?_) (fun h => ?_) | refine Br.e (fun h => ?_) (fun h => ?_) | refine Br.ne (fun h => ?_) (fun h => ?_) | refine Br.nne (fun h => ?_) (fun h => ?_) | refine Br.se (fun h => ?_) (fun h => ?_) | refine Br.mk (fun h => ?_) (fun h => ?_))
  · have hk' : k < names.length := by omega
    have hsz : names[k].size ≤ 64 := nameOk_size (ir.names _ (by rw [hnames]; exact List.getElem_mem _))
    refine hr2.idxStr (eqS hw) hk' ?_
    refine (read_spec i hw).use ?_
    rintro _ w ⟨u1, rfl, hw⟩
    refine ⟨_, _, rfl, hr2.idxStr (eqS hw) hk' ?_⟩
    refine (readR_spec ir (by omega) (by omega) (hw.take (RefAt r sr))).use ?_
    rintro _ w ⟨u2, rfl, hw⟩
    refine ⟨_, _, rfl, drw_rule hw fun w hw => ?_⟩
    refine hr1.idxStr selfS hk' ?_
    refine hr2.idxStr selfS hk' ?_
    (first | with_reducible refine Br.d (fun h => ?_) (fun h => ?_) | with_reducible refine Br.nd (fun h => ?_) (fun h => ?_) | with_reducible refine Br.e (fun h => ?_) (fun h => ?_) | with_reducible refine Br.ne (fun h => ?_) (fun h => ?_) | with_reducible refine Br.nne (fun h => ?_) (fun h => ?_) | with_reducible refine Br.se (fun h => ?_) (fun h => ?_) | with_reducible refine Br.sne (fun h => ?_) (fun h => ?_) | with_reducible refine Br.nb (fun h => ?_) (fun h => ?_) | with_reducible refine Br.mk (fun h => ?_) (fun h => ?_) | refine Br.d (fun h => ?_) (fun h => ?_) | refine Br.nd (fun h => ?_) (fun h => ?_) | refine Br.e (fun h => ?_) (fun h => ?_) | refine Br.ne (fun h => ?_) (fun h => ?_) | refine Br.nne (fun h => ?_) (fun h => ?_) | refine Br.se (fun h => ?_) (fun h => ?_) | refine Br.mk (fun h => ?_) (fun h => ?_))
    · exact absurd rfl h
    have l1 := readD_len i names[k]
    have l2 := readD_len ir names[k]
    refine ⟨_, convS_own (xs := (readD st names[k]).1) selfS (by omega), _, convS_own (xs := (readD sr names[k]).1) selfS (by omega), ?_⟩
    rw [Rel.read (by assumption)]
    (first | with_reducible refine Br.d (fun h => ?_) (fun h => ?_) | with_reducible refine Br.nd (fun h => ?_) (fun h => ?_) | with_reducible refine Br.e (fun h => ?_) (fun h => ?_) | with_reducible refine Br.ne (fun h => ?_) (fun h => ?_) | with_reducible refine Br.nne (fun h => ?_) (fun h => ?_) | with_reducible refine Br.se (fun h => ?_) (fun h => ?_) | with_reducible refine Br.sne (fun h => ?_) (fun h => ?_) | with_reducible refine Br.nb (fun h => ?_) (fun h => ?_) | with_reducible refine Br.mk (fun h => ?_) (fun h => ?_) | refine Br.d (fun h => ?_) (fun h => ?_) | refine Br.nd (fun h => ?_) (fun h => ?_) | refine Br.e (fun h => ?_) (fun h => ?_) | refine Br.ne (fun h => ?_) (fun h => ?_) | refine Br.nne (fun h => ?_) (fun h => ?_) | refine Br.se (fun h => ?_) (fun h => ?_) | refine Br.mk (fun h => ?_) (fun h => ?_))
    · exact absurd rfl h
    (first | with_reducible refine Br.d (fun h => ?_) (fun h => ?_) | with_reducible refine Br.nd (fun h => ?_) (fun h => ?_) | with_reducible refine Br.e (fun h => ?_) (fun h => ?_) | with_reducible refine Br.ne (fun h => ?_) (fun h => ?_) | with_reducible refine Br.nne (fun h => ?_) (fun h => ?_) | with_reducible refine Br.se (fun h => ?_) (fun h => ?_) | with_reducible refine Br.sne (fun h => ?_) (fun h => ?_) | with_reducible refine Br.nb (fun h => ?_) (fun h => ?_) | with_reducible refine Br.mk (fun h => ?_) (fun h => ?_) | refine Br.d (fun h => ?_) (fun h => ?_) | refine Br.nd (fun h => ?_) (fun h => ?_) | refine Br.e (fun h => ?_) (fun h => ?_) | refine Br.ne (fun h => ?_) (fun h => ?_) | refine Br.nne (fun h => ?_) (fun h => ?_) | refine Br.se (fun h => ?_) (fun h => ?_) | refine Br.mk (fun h => ?_) (fun h => ?_))
    · exact absurd rfl h
    have hw : Sat R2 (DiskAt d st :: RefAt r sr :: Hs) w := by
      have := hw.take (DiskAt d st)
      exact this.cons fun _ h => (h.take (RefAt r sr)).cons fun _ h => h.drop.drop
    rw [wrap64 (by omega) (by omega)]
    exact ⟨⟨k + 1, by omega, by omega, hw⟩, by dsimp only; omega⟩
  · exact ⟨rfl, (back1 (back2 hw)).drop.drop⟩

end Go.Proofs.Ytbniilhfbfcegaa
