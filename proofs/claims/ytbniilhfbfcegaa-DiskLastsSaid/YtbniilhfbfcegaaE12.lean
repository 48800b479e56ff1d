/- DiskLasts, DiskRoom: the laws. Condition: what the rows' readings give. -/
import Derived.Test.YtbniilhfbfcegaaE11
namespace Go.Proofs.Ytbniilhfbfcegaa
open Go Go.VC

variable {R : Cx} {Hs Rest : List HP} {w : World}

/-- The string of a first part of bytes that one owns. -/
theorem convS_short {S : World → Prop} {s : Sl} {xs : List Int} {Hs' : List HP} {R' : Cx} {n : Nat} (hS : ∀ w, S w → Sat R' Hs' w) [t : Take (Own s 5 (b8 xs)) Hs' Rest] (hn : n ≤ xs.length) (hb : xs.length ≤ 9223372036854775807) :
    ∀ w', S w' → (convert 31 9 (.slice s.a n s.cap)).run Try.prog w' = .ok (.string (VC.strOf (xs.take n))) w' := by
  intro w' h
  have h2 := Own.short ((hS w' h).perm t.perm) (n := n) (by simpa using hn)
  have h3 : Sat R' (Own ⟨s.a, n, s.cap⟩ 5 (b8 (xs.take n)) :: Rest) w' := by rw [show b8 (xs.take n) = (b8 xs).take n from List.map_take]; exact h2
  obtain ⟨R2, hr, _, hw, _⟩ := Own.lend h3 (by simp; omega)
  exact convS_ro (s := ⟨s.a, n, s.cap⟩) Try.underlying31 Try.underlying5 Try.underlying9 hw hr

theorem lasts_law {l : Sl} {acts : List AE} {e : AE} (hl : RoN 6 R l (acts.map rowA)) (ha : ∀ e ∈ acts, ActOk R e) (hx : ActOk R e) (hw : Sat R Hs w) :
    Gets Try.prog 6 #[.slice l.a l.len l.cap, .agg #[.int .i64 e.1.dof, .string e.1.name, .string e.1.to, .int .i64 e.1.n, .slice e.2.1.a e.2.1.len e.2.1.cap, .slice e.2.2.a e.2.2.len e.2.2.cap]] w fun r w' => r = .bool true ∧ Sat R Hs w' := by
  obtain ⟨⟨dof, name, to, n, more, keep⟩, sb, sk⟩ := e
  have hsb := hx.hb; have hsk := hx.hk
  simp only at hsb hsk ⊢
  have hsbl : sb.len = more.length := by have := hsb.len; simpa using this
  have hll : l.len = acts.length := by have := hl.len; simpa using this
  apply call6
  refine new_rule hw fun bx w hw => ⟨_, At.own (eqS hw) (by exact ⟨rfl, trivial⟩), _, At.own (eqS hw) (by exact ⟨rfl, trivial⟩), _, At.own (eqS hw) (by exact ⟨rfl, trivial⟩), ?_⟩
  have hw := hw.drop
  refine (new_ok (by decide) (by decide) hw).use ?_
  rintro _ w ⟨d, rfl, hw⟩
  refine ⟨_, _, rfl, (much_spec hl ha hw).use ?_⟩
  rintro _ w ⟨m, rfl, hm, hw⟩
  refine ⟨_, rfl, fun w => Sat R (DiskAt d ⟨100000, [], -1, -1, false⟩ :: Hs) w, Br.f rfl (Br.f rfl hw), fun z w hw => ⟨fun w => (m = false ∧ more.length ≤ 10000) ∧ Sat R (DiskAt d ⟨100000, [], -1, -1, false⟩ :: Hs) w, ?_, ?_⟩⟩
  · cases m
    · refine Br.f rfl ?_
      (first | with_reducible refine Br.d (fun h => ?_) (fun h => ?_) | with_reducible refine Br.nd (fun h => ?_) (fun h => ?_) | with_reducible refine Br.e (fun h => ?_) (fun h => ?_) | with_reducible refine Br.ne (fun h => ?_) (fun h => ?_) | with_reducible refine Br.nne (fun h => ?_) (fun h => ?_) | with_reducible refine Br.se (fun h => ?_) (fun h => ?_) | with_reducible refine Br.sne (fun h => ?_) (fun h => ?_) | with_reducible refine Br.nb (fun h => ?_) (fun h => ?_) | with_reducible refine Br.mk (fun h => ?_) (fun h => ?_) | refine Br.d (fun h => ?_) (fun h => ?_) | refine Br.nd (fun h => ?_) (fun h => ?_) | refine Br.e (fun h => ?_) (fun h => ?_) | refine Br.ne (fun h => ?_) (fun h => ?_) | refine Br.nne (fun h => ?_) (fun h => ?_) | refine Br.se (fun h => ?_) (fun h => ?_) | refine Br.mk (fun h => ?_) (fun h => ?_))
      · exact ⟨rfl, hw.drop⟩
      · exact ⟨⟨rfl, by omega⟩, hw⟩
    · exact Br.t rfl ⟨rfl, hw.drop⟩
  rintro z w ⟨⟨rfl, hmore⟩, hw⟩
  refine (newR_spec 100000 hw).use ?_
  rintro _ w (⟨hn2, rfl, hw⟩ | ⟨hn2, _, _, r, rfl, hw⟩)
  · exact absurd hn2 (by decide)
  have hw := hw.swap
  refine ⟨_, _, rfl, fun w => ∃ st sr, Rel st sr ∧ st.fs.length ≤ 300 ∧ Sat R (DiskAt d st :: RefAt r sr :: Hs) w, ?_, ?_⟩
  · refine ⟨fun i w => ∃ (k : Nat) (st sr : DS), i = k ∧ k ≤ acts.length ∧ k ≤ 300 ∧ Rel st sr ∧ st.fs.length ≤ k ∧ Sat R (DiskAt d st :: RefAt r sr :: Hs) w, fun i _ => acts.length - i.toNat, ⟨0, _, _, rfl, Nat.zero_le _, by omega, Rel.new (by decide) (by decide), Nat.le_refl _, hw⟩, ?_⟩
    rintro z _ w ⟨k, st, sr, rfl, hk, hk3, hr, hfl, hw⟩
    have out : ∃ st sr, Rel st sr ∧ st.fs.length ≤ 300 ∧ Sat R (DiskAt d st :: RefAt r sr :: Hs) w := ⟨st, sr, hr, by omega, hw⟩
    (first | with_reducible refine Br.d (fun h => ?_) (fun h => ?_) | with_reducible refine Br.nd (fun h => ?_) (fun h => ?_) | with_reducible refine Br.e (fun h => ?_) (fun h => ?_) | with_reducible refine Br.ne (fun h => ?_) (fun h => ?_) | with_reducible refine Br.nne (fun h => ?_) (fun h => ?_) | with_reducible refine Br.se (fun h => ?_) (fun h => ?_) | with_reducible refine Br.sne (fun h => ?_) (fun h => ?_) | with_reducible refine Br.nb (fun h => ?_) (fun h => ?_) | with_reducible refine Br.mk (fun h => ?_) (fun h => ?_) | refine Br.d (fun h => ?_) (fun h => ?_) | refine Br.nd (fun h => ?_) (fun h => ?_) | refine Br.e (fun h => ?_) (fun h => ?_) | refine Br.ne (fun h => ?_) (fun h => ?_) | refine Br.nne (fun h => ?_) (fun h => ?_) | refine Br.se (fun h => ?_) (fun h => ?_) | refine Br.mk (fun h => ?_) (fun h => ?_))
    · (first | with_reducible refine Br.d (fun h => ?_) (fun h => ?_) | with_reducible refine Br.nd (fun h => ?_) (fun h => ?_) | with_reducible refine Br.e (fun h => ?_) (fun h => ?_) | with_reducible refine Br.ne (fun h => ?_) (fun h => ?_) | with_reducible refine Br.nne (fun h => ?_) (fun h => ?_) | with_reducible refine Br.se (fun h => ?_) (fun h => ?_) | with_reducible refine Br.sne (fun h => ?_) (fun h => ?_) | with_reducible refine Br.nb (fun h => ?_) (fun h => ?_) | with_reducible refine Br.mk (fun h => ?_) (fun h => ?_) | refine Br.d (fun h => ?_) (fun h => ?_) | refine Br.nd (fun h => ?_) (fun h => ?_) | refine Br.e (fun h => ?_) (fun h => ?_) | refine Br.ne (fun h => ?_) (fun h => ?_) | refine Br.nne (fun h => ?_) (fun h => ?_) | refine Br.se (fun h => ?_) (fun h => ?_) | refine Br.mk (fun h => ?_) (fun h => ?_))
      · have hk1 : k < acts.length := by omega
        have hk2 : k < 300 := by omega
        have hrd : ReadsN 6 l (acts.map rowA) (fun w' => w' = w) := hl.reads (eqS hw)
        refine hrd.rngM hk1 fun a hadr el => ⟨_, _, _, _, _, _, el.z (by exact ⟨rfl, rfl, rfl, rfl, rfl, rfl, trivial⟩), ?_⟩
        have hok := ha acts[k] (List.getElem_mem _)
        have hlen := hr.len
        refine (does_spec hr.inv hr.invR (by omega) (by omega) hok (hm rfl k hk1 (by omega)) hw).use ?_
        rintro _ w ⟨b, rfl, hb, hw⟩
        have hr2 := hr.step acts[k].1 hok.n1
        have hfl2 := step_len st acts[k].1
        refine ⟨_, rfl, ?_⟩
        rw [wrap64 (by omega) (by omega)]
        exact ⟨⟨k + 1, _, _, by omega, by omega, by omega, hr2, by omega, hw⟩, by dsimp only; omega⟩
      · exact out
    · exact out
  rintro z w ⟨st, sr, hr, hfl, hw⟩
  have hnil : RoI R ⟨none, 0, 0⟩ [] := ⟨rfl, by simp, fun h => absurd rfl h⟩
  have hnil8 : Ro R ⟨none, 0, 0⟩ (b8 []) := ⟨rfl, by simp, fun h => absurd rfl h⟩
  refine (crash_spec (s := ⟨none, 0, 0⟩) hr.inv hnil (by omega) hw).use ?_
  rintro _ w ⟨rfl, hw⟩
  have i1 := crash_inv hr.inv []
  have hl1 := crash_len st []
  have h1 : (crashD st []).arm = -1 ∧ (crashD st []).fail = -1 ∧ (crashD st []).off = false := ⟨rfl, rfl, rfl⟩
  generalize crashD st [] = st1 at *
  obtain ⟨ha1, hf1, ho1⟩ := h1
  refine ⟨rfl, (append_spec (k := name) (x := ⟨none, 0, 0⟩) i1 hnil8 (by simp) hw).use ?_⟩
  rintro _ w ⟨rfl, hw⟩
  refine ⟨_, rfl, ?_⟩
  cases hk : nameOk name
  · have e : appendD st1 name [] = (st1, 1) := by unfold appendD; rw [hk]; rfl
    rw [e]
    exact Br.t rfl (Br.t rfl ⟨rfl, hw.drop.drop⟩)
  have e : appendD st1 name [] = ({ st1 with fs := putB name [] st1.fs }, 0) := by
    rw [append_on hk ha1 hf1 ho1]; exact if_neg (by have := i1.full; simp; omega)
  have i2 := appendD_inv i1 name []
  have l2 := append_len st1 name []
  rw [e] at hw i2 l2 ⊢
  simp only at hw i2 l2 ⊢
  refine Br.f rfl ?_
  refine (sync_spec (k := name) i2 hw).use ?_
  rintro _ w ⟨rfl, hw⟩
  have i3 := sync_inv i2 name
  have l3 := sync_len { st1 with fs := putB name [] st1.fs } name
  have hg2 := getM_putB name [] st1.fs
  generalize hfn : (getM name st1.fs).getD ⟨[], 0⟩ = f0 at hg2
  have e3 : syncD { st1 with fs := putB name [] st1.fs } name = ({ st1 with fs := updM name (fun f => { f with sure := f.b.length }) (putB name [] st1.fs) }, 0) := by
    rw [sync_on (st := { st1 with fs := putB name [] st1.fs }) hk ha1 hf1 ho1]; exact if_pos (by rw [hg2]; rfl)
  rw [e3] at hw i3 l3 ⊢
  simp only at hw i3 l3 ⊢
  have hg3 : getM name (updM name (fun f : Fl => { f with sure := f.b.length }) (putB name [] st1.fs)) = some ⟨f0.b, f0.b.length⟩ := by
    rw [getM_upd hg2]; simp
  generalize updM name (fun f : Fl => { f with sure := f.b.length }) (putB name [] st1.fs) = fs3 at *
  have bt : (f0.b.length : Int) ≤ 16777216 := by have := total_le hg3; have := i3.full; have := i3.r1; simp only at *; omega
  refine ⟨_, rfl, (read_spec i3 hw).use ?_⟩
  rintro _ w ⟨t1, rfl, hw⟩
  have er : readD { st1 with fs := fs3 } name = (f0.b, 0) := read_on (st := { st1 with fs := fs3 }) (f := ⟨f0.b, f0.b.length⟩) hk ho1 hg3
  rw [er] at hw ⊢
  simp only at hw ⊢
  refine ⟨_, _, rfl, fun w => Sat R (Own t1 5 (b8 f0.b) :: DiskAt d { st1 with fs := fs3 } :: RefAt r sr :: Hs) w, Br.f rfl (Br.f rfl hw), fun z w hw => ?_⟩
  refine (append_spec (k := name) i3 hsb (by omega) (hw.take (DiskAt d { st1 with fs := fs3 }))).use ?_
  rintro _ w ⟨rfl, hw⟩
  have i4 := appendD_inv i3 name more
  have l4 := append_len { st1 with fs := fs3 } name more
  -- whether there was room
  obtain ⟨g, all, h4, hg4, hpre⟩ : ∃ (g : Int) (all : List Int), (appendD { st1 with fs := fs3 } name more).2 = g ∧ ((g = 0 ∨ g = 3) ∧ getM name (appendD { st1 with fs := fs3 } name more).1.fs = some ⟨all, f0.b.length⟩) ∧
      f0.b = all.take f0.b.length ∧ f0.b.length ≤ all.length ∧ (appendD { st1 with fs := fs3 } name more).1.off = false := by
    rw [append_on (st := { st1 with fs := fs3 }) hk ha1 hf1 ho1]
    unfold appendG
    split
    · exact ⟨3, f0.b, rfl, ⟨.inr rfl, hg3⟩, by simp, Nat.le_refl _, ho1⟩
    · refine ⟨0, f0.b ++ more, rfl, ⟨.inl rfl, ?_⟩, by simp, by simp, ho1⟩
      simp only
      rw [getM_putB, hg3]; rfl
  obtain ⟨hg, hg4⟩ := hg4
  obtain ⟨hp1, hp2, ho4⟩ := hpre
  rw [h4]
  generalize (appendD { st1 with fs := fs3 } name more).1 = st4 at *
  have at4 : (all.length : Int) ≤ 16777216 := by have := total_le hg4; have := i4.full; have := i4.r1; simp only at *; omega
  refine ⟨_, rfl, (read_spec i4 hw).use ?_⟩
  rintro _ w ⟨t2, rfl, hw⟩
  have er : readD st4 name = (all, 0) := read_on hk ho4 hg4
  rw [er] at hw ⊢
  simp only at hw ⊢
  refine ⟨_, _, rfl, (crash_spec i4 hsk (by simp only at *; omega) (hw.take (DiskAt d st4))).use ?_⟩
  rintro _ w ⟨rfl, hw⟩
  have i5 := crash_inv i4 keep
  obtain ⟨kp, hg5, _⟩ := crash_get i4.uni keep hg4
  have hst := stay_le kp ⟨all, f0.b.length⟩ hp2
  refine ⟨rfl, (read_spec i5 hw).use ?_⟩
  rintro _ w ⟨t3, rfl, hw⟩
  have er : readD (crashD st4 keep) name = (all.take (f0.b.length + stay kp ⟨all, f0.b.length⟩), 0) := read_on hk rfl hg5
  rw [er] at hw ⊢
  simp only at hw hst ⊢
  generalize stay kp ⟨all, f0.b.length⟩ = sy at *
  refine ⟨_, _, rfl, fun w => Sat R (Own t3 5 (b8 (all.take (f0.b.length + sy))) :: DiskAt d (crashD st4 keep) :: Own t2 5 (b8 all) :: Own t1 5 (b8 f0.b) :: RefAt r sr :: Hs) w, Br.f rfl (Br.f rfl ?_), fun z w hw => ?_⟩
  · rcases hg with rfl | rfl
    · exact Br.f rfl hw
    · exact Br.t rfl (Br.f rfl hw)
  refine drw_rule hw fun w hw => ?_
  have hl3 : t3.len = f0.b.length + sy := by have := Own.len hw; simp at this; omega
  have hc3 := Own.cap hw
  have hl2 : t2.len = all.length := by have := Own.len (hw.take (Own t2 5 (b8 all))); simpa using this
  have hc2 := Own.cap (hw.take (Own t2 5 (b8 all)))
  have hl1' : t1.len = f0.b.length := by have := Own.len (hw.take (Own t1 5 (b8 f0.b))); simpa using this
  refine Br.t (by simp; omega) (Br.t (by simp; omega) ⟨by omega, by omega, _, convS_short (xs := all.take (f0.b.length + sy)) (n := t1.len) selfS (by rw [List.length_take]; omega) (by rw [List.length_take]; omega), _, convS_own (xs := f0.b) selfS (by omega), Br.t ?_ ?_⟩)
  · have : (all.take (f0.b.length + sy)).take t1.len = f0.b := by
      rw [List.take_take, hl1', Nat.min_eq_left (by omega)]; exact hp1.symm
    rw [this]; simp
  · refine ⟨_, convS_own (xs := all.take (f0.b.length + sy)) selfS (by rw [List.length_take]; omega), by omega, by omega, _, convS_short (xs := all) (n := t3.len) selfS (by omega) (by omega), ?_⟩
    rw [hl3]
    exact ⟨by simp, hw.drop.drop.drop.drop.drop⟩

/-! ### DiskRoom -/
theorem doing_room {st : DS} {ok : Bool} {g : DS → DS × Int} (h : ∀ st, (g st).1.room = st.room) : (doing st ok g).1.room = st.room := by
  unfold doing
  have := (chg_fs st ok).2
  split
  · rw [h, this]
  · exact this
theorem append_room (st : DS) (k : ByteArray) (xs : List Int) : (appendD st k xs).1.room = st.room := doing_room fun st => by unfold appendG; split <;> rfl
theorem step_room (st : DS) (a : Act) : (stepD st a).room = st.room := by
  unfold stepD
  split
  · exact append_room _ _ _
  split
  · exact doing_room fun st => by unfold syncG; split <;> rfl
  split
  · refine doing_room fun st => ?_
    unfold renameG
    split
    · split <;> rfl
    · rfl
  split
  · exact doing_room fun st => by unfold unlinkG; split <;> rfl
  split
  · rfl
  split
  · rfl
  split
  · rfl
  split <;> rfl

theorem step_inv {st : DS} (i : Inv st) (a : Act) (hn : a.n < 9223372036854775808) : Inv (stepD st a) := by
  have a0 := i.a0; have a1 := i.a1; have f0 := i.f0; have f1 := i.f1
  unfold stepD
  split
  · exact appendD_inv i _ _
  split
  · exact sync_inv i _
  split
  · exact rename_inv i _ _
  split
  · exact unlink_inv i _
  split
  · exact i
  split
  · exact { a0 := i.a0, a1 := i.a1, f0 := by simp only; split <;> omega, f1 := by simp only; split <;> omega, r0 := i.r0, r1 := i.r1, full := i.full, uni := i.uni, names := i.names, sure := i.sure }
  split
  · exact { f0 := i.f0, f1 := i.f1, a0 := by simp only; split <;> omega, a1 := by simp only; split <;> omega, r0 := i.r0, r1 := i.r1, full := i.full, uni := i.uni, names := i.names, sure := i.sure }
  split
  · exact crash_inv i _
  · exact i

/-- What an append that was made, or refused, leaves to be read. -/
theorem append_reads (st : DS) (k : ByteArray) (xs : List Int) :
    ((appendD st k xs).2 = 0 → readD (appendD st k xs).1 k = ((readD st k).1 ++ xs, 0) ∧ total (appendD st k xs).1.fs = total st.fs + xs.length) ∧
    ((appendD st k xs).2 ≠ 0 → (appendD st k xs).2 ≠ 5 → readD (appendD st k xs).1 k = readD st k ∧ total (appendD st k xs).1.fs = total st.fs) := by
  cases hk : nameOk k
  · have e : appendD st k xs = (st, 1) := by unfold appendD; rw [hk]; rfl
    rw [e]; exact ⟨(fun h => by cases h), fun _ _ => ⟨rfl, rfl⟩⟩
  by_cases ho : st.off = true
  · have e : appendD st k xs = (st, 5) := by unfold appendD doing chg; rw [hk, ho]; rfl
    rw [e]; exact ⟨(fun h => by cases h), fun _ h => absurd rfl h⟩
  have ho : st.off = false := by simpa using ho
  cases hm : (metN st.arm).2
  · cases hf : (metN st.fail).2
    · have hc : chg st true = ({ st with arm := (metN st.arm).1, fail := (metN st.fail).1 }, 0) := by unfold chg; simp [ho, hm, hf]
      have e : appendD st k xs = appendG { st with arm := (metN st.arm).1, fail := (metN st.fail).1 } k xs := by unfold appendD doing; rw [hk, hc]; rfl
      rw [e]
      unfold appendG
      split
      · refine ⟨(fun h => by cases h), fun _ _ => ⟨?_, rfl⟩⟩
        unfold readD; rfl
      · refine ⟨fun _ => ⟨?_, by simp only; rw [putB_total]⟩, fun h => absurd rfl h⟩
        rw [read_on hk (by exact ho) (getM_putB k xs st.fs)]
        unfold readD
        rw [ho, hk]
        cases getM k st.fs <;> rfl
    · have hc : chg st true = ({ st with arm := (metN st.arm).1, fail := (metN st.fail).1 }, 4) := by unfold chg; simp [ho, hm, hf]
      have e : appendD st k xs = ({ st with arm := (metN st.arm).1, fail := (metN st.fail).1 }, 4) := by unfold appendD doing; rw [hk, hc]; rfl
      rw [e]
      refine ⟨(fun h => by cases h), fun _ _ => ⟨?_, rfl⟩⟩
      unfold readD; rfl
  · have hc : chg st true = ({ st with arm := (metN st.arm).1, off := true }, 5) := by unfold chg; simp [ho, hm]
    have e : appendD st k xs = ({ st with arm := (metN st.arm).1, off := true }, 5) := by unfold appendD doing; rw [hk, hc]; rfl
    rw [e]; exact ⟨(fun h => by cases h), fun _ h => absurd rfl h⟩

theorem strOf_size (xs : List Int) : (VC.strOf xs).size = xs.length := by
  unfold VC.strOf
  show (Array.size _) = _
  simp
theorem strOf_app (xs ys : List Int) : VC.strOf xs ++ VC.strOf ys = VC.strOf (xs ++ ys) := by
  refine ba_ext ?_
  simp [VC.strOf]

theorem room_law {room : Int} {l : Sl} {acts : List AE} (hl : RoN 6 R l (acts.map rowA)) (ha : ∀ e ∈ acts, ActOk R e) (hw : Sat R Hs w) :
    Gets Try.prog 7 #[.int .i64 room, .slice l.a l.len l.cap] w fun r w' => r = .bool true ∧ Sat R Hs w' := by
  have hll : l.len = acts.length := by have := hl.len; simpa using this
  apply call7
  refine (new_spec room hw).use ?_
  rintro _ w (⟨hn, rfl, hw⟩ | ⟨hn, h0, h1, d, rfl, hw⟩)
  · refine ⟨_, _, rfl, (much_spec hl ha hw).use ?_⟩
    rintro _ w ⟨m, rfl, _, hw⟩
    refine ⟨_, rfl, fun w => False, ⟨fun b w => b = true ∧ Sat R Hs w, Br.t rfl ⟨rfl, hw⟩, ?_⟩, fun _ _ h => h.elim⟩
    rintro z _ w ⟨rfl, hw⟩
    have hro : room < 1 ∨ room > 16777216 := by
      unfold newErr at hn
      split at hn
      · assumption
      · cases hn
    refine Br.t rfl (Br.t rfl ?_)
    (first | with_reducible refine Br.d (fun h => ?_) (fun h => ?_) | with_reducible refine Br.nd (fun h => ?_) (fun h => ?_) | with_reducible refine Br.e (fun h => ?_) (fun h => ?_) | with_reducible refine Br.ne (fun h => ?_) (fun h => ?_) | with_reducible refine Br.nne (fun h => ?_) (fun h => ?_) | with_reducible refine Br.se (fun h => ?_) (fun h => ?_) | with_reducible refine Br.sne (fun h => ?_) (fun h => ?_) | with_reducible refine Br.nb (fun h => ?_) (fun h => ?_) | with_reducible refine Br.mk (fun h => ?_) (fun h => ?_) | refine Br.d (fun h => ?_) (fun h => ?_) | refine Br.nd (fun h => ?_) (fun h => ?_) | refine Br.e (fun h => ?_) (fun h => ?_) | refine Br.ne (fun h => ?_) (fun h => ?_) | refine Br.nne (fun h => ?_) (fun h => ?_) | refine Br.se (fun h => ?_) (fun h => ?_) | refine Br.mk (fun h => ?_) (fun h => ?_))
    · exact ⟨rfl, hw⟩
    · exact Br.t (by simp; omega) ⟨rfl, hw⟩
  refine ⟨_, _, rfl, (much_spec hl ha hw).use ?_⟩
  rintro _ w ⟨m, rfl, hm, hw⟩
  refine ⟨_, rfl, fun w => m = false ∧ Sat R (DiskAt d ⟨room, [], -1, -1, false⟩ :: Hs) w, ⟨fun b w => b = m ∧ Sat R (DiskAt d ⟨room, [], -1, -1, false⟩ :: Hs) w, Br.f rfl (Br.f rfl ⟨rfl, hw⟩), ?_⟩, ?_⟩
  · rintro z _ w ⟨rfl, hw⟩
    rename_i b
    cases b
    · exact Br.f rfl ⟨rfl, hw⟩
    · exact Br.t rfl (Br.f rfl (Br.t rfl ⟨rfl, hw.drop⟩))
  rintro z w ⟨rfl, hw⟩
  refine ⟨fun i w => ∃ (k : Nat) (st : DS), i = k ∧ k ≤ acts.length ∧ k ≤ 300 ∧ Inv st ∧ st.room = room ∧ st.fs.length ≤ k ∧ Sat R (DiskAt d st :: Hs) w, fun i _ => acts.length - i.toNat, ⟨0, _, rfl, Nat.zero_le _, by omega, inv_new h0 h1, rfl, Nat.le_refl _, hw⟩, ?_⟩
  rintro z _ w ⟨k, st, rfl, hk, hk3, i, hroom, hfl, hw⟩
  refine ⟨fun w => (k < acts.length ∧ k < 300) ∧ Sat R (DiskAt d st :: Hs) w, ?_, ?_⟩
  · (first | with_reducible refine Br.d (fun h => ?_) (fun h => ?_) | with_reducible refine Br.nd (fun h => ?_) (fun h => ?_) | with_reducible refine Br.e (fun h => ?_) (fun h => ?_) | with_reducible refine Br.ne (fun h => ?_) (fun h => ?_) | with_reducible refine Br.nne (fun h => ?_) (fun h => ?_) | with_reducible refine Br.se (fun h => ?_) (fun h => ?_) | with_reducible refine Br.sne (fun h => ?_) (fun h => ?_) | with_reducible refine Br.nb (fun h => ?_) (fun h => ?_) | with_reducible refine Br.mk (fun h => ?_) (fun h => ?_) | refine Br.d (fun h => ?_) (fun h => ?_) | refine Br.nd (fun h => ?_) (fun h => ?_) | refine Br.e (fun h => ?_) (fun h => ?_) | refine Br.ne (fun h => ?_) (fun h => ?_) | refine Br.nne (fun h => ?_) (fun h => ?_) | refine Br.se (fun h => ?_) (fun h => ?_) | refine Br.mk (fun h => ?_) (fun h => ?_))
    · (first | with_reducible refine Br.d (fun h => ?_) (fun h => ?_) | with_reducible refine Br.nd (fun h => ?_) (fun h => ?_) | with_reducible refine Br.e (fun h => ?_) (fun h => ?_) | with_reducible refine Br.ne (fun h => ?_) (fun h => ?_) | with_reducible refine Br.nne (fun h => ?_) (fun h => ?_) | with_reducible refine Br.se (fun h => ?_) (fun h => ?_) | with_reducible refine Br.sne (fun h => ?_) (fun h => ?_) | with_reducible refine Br.nb (fun h => ?_) (fun h => ?_) | with_reducible refine Br.mk (fun h => ?_) (fun h => ?_) | refine Br.d (fun h => ?_) (fun h => ?_) | refine Br.nd (fun h => ?_) (fun h => ?_) | refine Br.e (fun h => ?_) (fun h => ?_) | refine Br.ne (fun h => ?_) (fun h => ?_) | refine Br.nne (fun h => ?_) (fun h => ?_) | refine Br.se (fun h => ?_) (fun h => ?_) | refine Br.mk (fun h => ?_) (fun h => ?_))
      · have a1 : k < acts.length := by omega
        have a2 : k < 300 := by omega
        exact ⟨⟨a1, a2⟩, hw⟩
      · exact ⟨rfl, hw.drop⟩
    · exact ⟨rfl, hw.drop⟩
  rintro z w ⟨⟨hk1, hk2⟩, hw⟩
  have hrd : ReadsN 6 l (acts.map rowA) (fun w' => w' = w) := hl.reads (eqS hw)
  refine hrd.rngM hk1 fun a hadr el => ⟨_, _, _, _, _, _, el.z (by exact ⟨rfl, rfl, rfl, rfl, rfl, rfl, trivial⟩), ?_⟩
  have hok := ha acts[k] (List.getElem_mem _)
  have hsm := hm rfl k hk1 hk2
  generalize acts[k] = e at *
  have hstep := step_inv i e.1 hok.n1
  have hsl := step_len st e.1
  have hsr := step_room st e.1
  obtain ⟨⟨dof, name, to, n, more, keep⟩, sb, sk⟩ := e
  have hsb := hok.hb
  have hmb := hsm.b
  simp only at hsb hstep hsl hsr hmb ⊢
  have hsbl : sb.len = more.length := by have := hsb.len; simpa using this
  refine new_rule hw fun ba w hw => ?_
  refine store_rule (v := .agg #[.int .i64 dof, .string name, .string to, .int .i64 n, .slice sb.a sb.len sb.cap, .slice sk.a sk.len sk.cap]) hw (by kernel_rfl) rfl (by simp [Value.cells]) fun w hw => ?_
  have hw : Sat R (DiskAt d st :: pts ba (.cells [.int .i64 dof, .string name, .string to, .int .i64 n, .slice sb.a sb.len sb.cap, .slice sk.a sk.len sk.cap].toArray 43 (0, 0)) :: Hs) w := by
    have hw : Sat R (pts ba (.cells [.int .i64 dof, .string name, .string to, .int .i64 n, .slice sb.a sb.len sb.cap, .slice sk.a sk.len sk.cap].toArray 43 (0, 0)) :: DiskAt d st :: Hs) w := hw
    exact hw.swap
  have r1 := i.r1; have hfull := i.full
  have hnn := total_nn st.fs
  refine (size_spec hw).use ?_
  rintro _ w ⟨rfl, hw⟩
  refine ⟨_, rfl, _, At.own (eqS hw) (by exact ⟨rfl, trivial⟩), (read_spec i hw).use ?_⟩
  rintro _ w ⟨t1, rfl, hw⟩
  have hrl1 := readD_len i name
  refine ⟨_, _, rfl, _, At.own (eqS hw) (by exact ⟨rfl, trivial⟩), ?_⟩
  -- the end of a round
  have fin : ∀ {st2 : DS} {w : World} {Hs' : List HP}, Inv st2 → st2.room = room → st2.fs.length ≤ k + 1 → (∀ (R : Cx) w, Sat R Hs' w → Sat R Hs w) → Sat R (DiskAt d st2 :: Hs') w →
      Calls Try.prog 14 #[.pointer (some ⟨d, 0, none⟩)] w fun e_16 w_25 =>
        ∃ t151_3 : Int, (e_16 = .returned (.int .i64 t151_3)) ∧
        Br (decide (t151_3 > room))
         ((Value.bool false) = .bool true ∧ Sat R Hs w_25)
         (Calls Try.prog 14 #[.pointer (some ⟨d, 0, none⟩)] w_25 fun e_17 w_26 =>
          ∃ t156_3 : Int, (e_17 = .returned (.int .i64 t156_3)) ∧
          Br (decide (t156_3 < 0))
           ((Value.bool false) = .bool true ∧ Sat R Hs w_26)
           ((∃ (k' : Nat) (st : DS), IntKind.i64.wrap ((k : Int) + 1) = k' ∧ k' ≤ acts.length ∧ k' ≤ 300 ∧ Inv st ∧ st.room = room ∧ st.fs.length ≤ k' ∧ Sat R (DiskAt d st :: Hs) w_26) ∧ acts.length - (IntKind.i64.wrap ((k : Int) + 1)).toNat < acts.length - (k : Int).toNat)) := by
    intro st2 w Hs' i2 hr2 hl2 hH hw
    have hf2 := i2.full
    have hn2 := total_nn st2.fs
    refine (size_spec hw).use ?_
    rintro _ w ⟨rfl, hw⟩
    refine ⟨_, rfl, Br.f (by simp; omega) ((size_spec hw).use ?_)⟩
    rintro _ w ⟨rfl, hw⟩
    refine ⟨_, rfl, Br.f (by simp; omega) ?_⟩
    rw [wrap64 (by omega) (by omega)]
    exact ⟨⟨k + 1, st2, by omega, by omega, by omega, i2, hr2, hl2, hw.cons fun _ h => hH _ _ h⟩, by omega⟩
  (first | with_reducible refine Br.d (fun h => ?_) (fun h => ?_) | with_reducible refine Br.nd (fun h => ?_) (fun h => ?_) | with_reducible refine Br.e (fun h => ?_) (fun h => ?_) | with_reducible refine Br.ne (fun h => ?_) (fun h => ?_) | with_reducible refine Br.nne (fun h => ?_) (fun h => ?_) | with_reducible refine Br.se (fun h => ?_) (fun h => ?_) | with_reducible refine Br.sne (fun h => ?_) (fun h => ?_) | with_reducible refine Br.nb (fun h => ?_) (fun h => ?_) | with_reducible refine Br.mk (fun h => ?_) (fun h => ?_) | refine Br.d (fun h => ?_) (fun h => ?_) | refine Br.nd (fun h => ?_) (fun h => ?_) | refine Br.e (fun h => ?_) (fun h => ?_) | refine Br.ne (fun h => ?_) (fun h => ?_) | refine Br.nne (fun h => ?_) (fun h => ?_) | refine Br.se (fun h => ?_) (fun h => ?_) | refine Br.mk (fun h => ?_) (fun h => ?_))
  · refine ⟨_, At.own (eqS hw) (by exact ⟨rfl, trivial⟩), _, At.own (eqS hw) (by exact ⟨rfl, trivial⟩), (append_spec (k := name) i hsb (by omega) (hw.take (DiskAt d st))).use ?_⟩
    rintro _ w ⟨rfl, hw⟩
    have i2 := appendD_inv i name more
    refine ⟨_, rfl, _, At.own (eqS hw) (by exact ⟨rfl, trivial⟩), (read_spec (k := name) i2 hw).use ?_⟩
    rintro _ w ⟨t2, rfl, hw⟩
    have hrl2 := readD_len i2 name
    obtain ⟨ar1, ar2⟩ := append_reads st name more
    have al := append_len st name more
    have arm := append_room st name more
    generalize (appendD st name more).2 = g at *
    generalize (appendD st name more).1 = st2 at *
    have done : ∀ {w}, Sat R (Own t2 5 (b8 (readD st2 name).1) :: DiskAt d st2 :: Own t1 5 (b8 (readD st name).1) :: pts ba (.cells [.int .i64 dof, .string name, .string to, .int .i64 n, .slice sb.a sb.len sb.cap, .slice sk.a sk.len sk.cap].toArray 43 (0, 0)) :: Hs) w → _ := fun {w} hw =>
      fin (w := w) i2 (arm.trans hroom) (by omega) (fun R w h => h.drop.drop.drop) (hw.take (DiskAt d st2))
    refine ⟨_, _, rfl, fun w => Sat R (Own t2 5 (b8 (readD st2 name).1) :: DiskAt d st2 :: Own t1 5 (b8 (readD st name).1) :: pts ba (.cells [.int .i64 dof, .string name, .string to, .int .i64 n, .slice sb.a sb.len sb.cap, .slice sk.a sk.len sk.cap].toArray 43 (0, 0)) :: Hs) w, drw_rule hw fun w hw => ?_, ?_⟩
    · (first | with_reducible refine Br.d (fun h => ?_) (fun h => ?_) | with_reducible refine Br.nd (fun h => ?_) (fun h => ?_) | with_reducible refine Br.e (fun h => ?_) (fun h => ?_) | with_reducible refine Br.ne (fun h => ?_) (fun h => ?_) | with_reducible refine Br.nne (fun h => ?_) (fun h => ?_) | with_reducible refine Br.se (fun h => ?_) (fun h => ?_) | with_reducible refine Br.sne (fun h => ?_) (fun h => ?_) | with_reducible refine Br.nb (fun h => ?_) (fun h => ?_) | with_reducible refine Br.mk (fun h => ?_) (fun h => ?_) | refine Br.d (fun h => ?_) (fun h => ?_) | refine Br.nd (fun h => ?_) (fun h => ?_) | refine Br.e (fun h => ?_) (fun h => ?_) | refine Br.ne (fun h => ?_) (fun h => ?_) | refine Br.nne (fun h => ?_) (fun h => ?_) | refine Br.se (fun h => ?_) (fun h => ?_) | refine Br.mk (fun h => ?_) (fun h => ?_))
      · obtain ⟨e1, e2⟩ := ar1 h
        have e1' : (readD st2 name).1 = (readD st name).1 ++ more := by rw [e1]
        refine Br.f (by rw [e1]; rfl) ⟨_, At.own selfS (by exact ⟨rfl, trivial⟩), ?_⟩
        refine (size_spec (hw.take (DiskAt d st2))).use ?_
        rintro _ w ⟨rfl, hw⟩
        refine ⟨_, rfl, hw.arr, ?_⟩
        rw [e2, wrap64 (by omega) (by omega)]
        refine Br.f (by rw [hsbl]; simp) ⟨_, convS_own (xs := (readD st2 name).1) selfS (by omega), _, convS_own (xs := (readD st name).1) selfS (by omega), _, At.own selfS (by exact ⟨rfl, trivial⟩), VC.strOf more, ?_, ?_, Br.f ?_ hw.arr⟩
        · intro w' h'
          have := convS_ro (s := sb) Try.underlying31 Try.underlying5 Try.underlying9 h' hsb
          exact this
        · simp only [strOf_size]; omega
        · rw [e1', strOf_app]; simp
      · exact hw
    rintro z w hw
    (first | with_reducible refine Br.d (fun h => ?_) (fun h => ?_) | with_reducible refine Br.nd (fun h => ?_) (fun h => ?_) | with_reducible refine Br.e (fun h => ?_) (fun h => ?_) | with_reducible refine Br.ne (fun h => ?_) (fun h => ?_) | with_reducible refine Br.nne (fun h => ?_) (fun h => ?_) | with_reducible refine Br.se (fun h => ?_) (fun h => ?_) | with_reducible refine Br.sne (fun h => ?_) (fun h => ?_) | with_reducible refine Br.nb (fun h => ?_) (fun h => ?_) | with_reducible refine Br.mk (fun h => ?_) (fun h => ?_) | refine Br.d (fun h => ?_) (fun h => ?_) | refine Br.nd (fun h => ?_) (fun h => ?_) | refine Br.e (fun h => ?_) (fun h => ?_) | refine Br.ne (fun h => ?_) (fun h => ?_) | refine Br.nne (fun h => ?_) (fun h => ?_) | refine Br.se (fun h => ?_) (fun h => ?_) | refine Br.mk (fun h => ?_) (fun h => ?_))
    · have h0 := h
      (first | with_reducible refine Br.d (fun h => ?_) (fun h => ?_) | with_reducible refine Br.nd (fun h => ?_) (fun h => ?_) | with_reducible refine Br.e (fun h => ?_) (fun h => ?_) | with_reducible refine Br.ne (fun h => ?_) (fun h => ?_) | with_reducible refine Br.nne (fun h => ?_) (fun h => ?_) | with_reducible refine Br.se (fun h => ?_) (fun h => ?_) | with_reducible refine Br.sne (fun h => ?_) (fun h => ?_) | with_reducible refine Br.nb (fun h => ?_) (fun h => ?_) | with_reducible refine Br.mk (fun h => ?_) (fun h => ?_) | refine Br.d (fun h => ?_) (fun h => ?_) | refine Br.nd (fun h => ?_) (fun h => ?_) | refine Br.e (fun h => ?_) (fun h => ?_) | refine Br.ne (fun h => ?_) (fun h => ?_) | refine Br.nne (fun h => ?_) (fun h => ?_) | refine Br.se (fun h => ?_) (fun h => ?_) | refine Br.mk (fun h => ?_) (fun h => ?_))
      · obtain ⟨e1, e2⟩ := ar2 h0 h
        refine Br.f (by rw [e1]; simp) ⟨_, convS_own (xs := (readD st2 name).1) (eqS hw) (by omega), _, convS_own (xs := (readD st name).1) (eqS hw) (by omega), Br.f (by rw [e1]; simp) ?_⟩
        refine (size_spec (hw.take (DiskAt d st2))).use ?_
        rintro _ w ⟨rfl, hw⟩
        exact ⟨_, rfl, Br.f (by rw [e2]; simp) (done hw.arr)⟩
      · exact done hw
    · exact done hw
  · refine (newR_spec room hw).use ?_
    rintro _ w (⟨hn2, rfl, hw⟩ | ⟨hn2, _, _, r, rfl, hw⟩)
    · rw [hn] at hn2; cases hn2
    refine ⟨_, _, rfl, dof, name, to, n, sb, sk, At.own (eqS hw) (by exact ⟨rfl, rfl, rfl, rfl, rfl, rfl, trivial⟩), ?_⟩
    have hw : Sat R (DiskAt d st :: RefAt r ⟨room, [], -1, -1, false⟩ :: Own t1 5 (b8 (readD st name).1) :: pts ba (.cells [.int .i64 dof, .string name, .string to, .int .i64 n, .slice sb.a sb.len sb.cap, .slice sk.a sk.len sk.cap].toArray 43 (0, 0)) :: Hs) w := hw.arr
    refine (does_spec (e := (⟨dof, name, to, n, more, keep⟩, sb, sk)) i (inv_new h0 h1) (by omega) (by simp) hok hsm hw).use ?_
    rintro _ w ⟨b, rfl, _, hw⟩
    exact ⟨_, rfl, fin hstep (hsr.trans hroom) (by omega) (fun R w h => h.drop.drop.drop) hw⟩

end Go.Proofs.Ytbniilhfbfcegaa
