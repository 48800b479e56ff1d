/- The disk: Append, whole; what is true of a disk stays so; DiskFails. Condition: none. -/
import Derived.Test.YtbniilhfbfcegaaD3
namespace Go.Proofs.Ytbniilhfbfcegaa
open Go Go.VC

variable {R : Cx} {Hs Rest : List HP} {w : World}

theorem metN_bd {n : Int} (h0 : -1 ≤ n) (h1 : n < 9223372036854775808) : -1 ≤ (metN n).1 ∧ (metN n).1 < 9223372036854775808 := by
  unfold metN
  split
  · exact ⟨h0, h1⟩
  · rename_i h; simp at h; exact ⟨by simp only; omega, by simp only; omega⟩

theorem chg_counts {st : DS} (c : Counts st) (ok : Bool) : Counts (chg st ok).1 := by
  have ha := metN_bd c.a0 c.a1
  have hf := metN_bd c.f0 c.f1
  unfold chg
  split
  · exact c
  split
  · exact c
  split
  · exact ⟨ha.1, ha.2, c.f0, c.f1⟩
  · exact ⟨ha.1, ha.2, hf.1, hf.2⟩
theorem chg_fs (st : DS) (ok : Bool) : (chg st ok).1.fs = st.fs ∧ (chg st ok).1.room = st.room := by
  unfold chg
  split
  · exact ⟨rfl, rfl⟩
  split
  · exact ⟨rfl, rfl⟩
  split <;> exact ⟨rfl, rfl⟩
theorem chg_inv {st : DS} (i : Inv st) (ok : Bool) : Inv (chg st ok).1 := by
  obtain ⟨h1, h2⟩ := chg_fs st ok
  exact { toCounts := chg_counts i.toCounts ok, r0 := by rw [h2]; exact i.r0, r1 := by rw [h2]; exact i.r1, full := by rw [h1, h2]; exact i.full, uni := by rw [h1]; exact i.uni, names := by rw [h1]; exact i.names, sure := by rw [h1]; exact i.sure }

/-- A change of so many names: what it is to do is g. -/
def doing (st : DS) (ok : Bool) (g : DS → DS × Int) : DS × Int := if (chg st ok).2 = 0 then g (chg st ok).1 else chg st ok

def appendD (st : DS) (k : ByteArray) (xs : List Int) : DS × Int := doing st (nameOk k) fun st => appendG st k xs

theorem all_one (k : ByteArray) : [k].all nameOk = nameOk k := by simp

/-- A name, given as the one of a list. -/
theorem ro_one {b : Nat} {k : ByteArray} {T : TypeId} (hc : R.m b = .none) : Ro (R.add (Heap.one b (.cells [.string k].toArray T (0, 0)))) ⟨some ⟨b, 0, none⟩, 1, 1⟩ ([k].map Value.string) :=
  ⟨rfl, by simp, fun _ => ⟨b, 0, _, T, (0, 0), rfl, Cx.lent hc, fun i v h => by simpa using h⟩⟩
theorem ro_two {b : Nat} {k k2 : ByteArray} {T : TypeId} (hc : R.m b = .none) : Ro (R.add (Heap.one b (.cells [.string k, .string k2].toArray T (0, 0)))) ⟨some ⟨b, 0, none⟩, 2, 2⟩ ([k, k2].map Value.string) :=
  ⟨rfl, by simp, fun _ => ⟨b, 0, _, T, (0, 0), rfl, Cx.lent hc, fun i v h => by simpa using h⟩⟩

theorem append_spec {d : Nat} {st : DS} {k : ByteArray} {x : Sl} {xs : List Int} (i : Inv st) (hx : Ro R x (b8 xs)) (hl : xs.length ≤ 1099511627776) (hw : Sat R (DiskAt d st :: Hs) w) :
    Gets Try.prog 12 #[.pointer (some ⟨d, 0, none⟩), .string k, .slice x.a x.len x.cap] w fun r w' => r = .int .i64 (appendD st k xs).2 ∧ Sat R (DiskAt d (appendD st k xs).1 :: Hs) w' := by
  apply call12
  refine new_rule hw fun bd w hw => new_rule hw fun bn w hw => new_rule hw fun bb w hw => ?_
  have hw : Sat R (box bb (.slice x.a x.len x.cap) 31 :: box bn (.string k) 9 :: box bd (.pointer (some ⟨d, 0, none⟩)) 22 :: DiskAt d st :: Hs) w := hw
  refine ⟨some ⟨d, 0, none⟩, At.own (eqS hw) (by exact ⟨rfl, trivial⟩), k, At.own (eqS hw) (by exact ⟨rfl, trivial⟩), new_rule hw fun bt w hw => ?_⟩
  obtain ⟨hc, hw⟩ := Sat.lend.1 hw
  have hw := hw.take (DiskAt d st)
  refine (change_spec (Q := fun n w => n = (appendD st k xs).2 ∧ Sat R (DiskAt d (appendD st k xs).1 :: Hs) w) hw i.toCounts (ro_one hc) (by simp) ?_ ?_).use ?_
  · rw [all_one]
    intro h0 w hw
    have e : appendD st k xs = appendG (chg st (nameOk k)).1 k xs := if_pos h0
    rw [e]
    have hw : Sat (R.add (Heap.one bt (.cells [.string k].toArray 9 (0, 0)))) (DiskAt d (chg st (nameOk k)).1 :: box bd (.pointer (some ⟨d, 0, none⟩)) 22 :: box bb (.slice x.a x.len x.cap) 31 :: box bn (.string k) 9 :: Hs) w :=
      hw.cons fun _ h => (h.take (box bd (.pointer (some ⟨d, 0, none⟩)) 22))
    refine (append1_spec (chg_inv i _) hx.add hl hw).use ?_
    rintro _ w ⟨rfl, hw⟩
    refine ⟨_, rfl, rfl, ?_⟩
    exact (Sat.lend.2 ⟨hc, hw⟩).drop.cons fun _ h => h.drop.drop.drop
  · rw [all_one]
    intro e h0 hne w hw
    have e2 : appendD st k xs = chg st (nameOk k) := if_neg (by rw [h0]; exact hne)
    rw [e2]
    exact ⟨h0.symm, (Sat.lend.2 ⟨hc, hw⟩).drop.cons fun _ h => h.drop.drop.drop⟩
  · rintro _ w ⟨n, rfl, rfl, hw⟩
    exact ⟨_, rfl, rfl, hw⟩

theorem putB_total (k : ByteArray) (xs : List Int) (fs : Fs) : total (putB k xs fs) = total fs + xs.length := by
  have hsome : (getM k (ensure k fs)).isSome = true := by
    unfold ensure
    split
    · assumption
    · rename_i h
      have : getM k fs = none := by simpa using h
      rw [getM_app this (ba_rfl k)]; rfl
  obtain ⟨f, hf⟩ := Option.isSome_iff_exists.1 hsome
  obtain ⟨a, b, e, ha⟩ := getM_split hf
  have h1 := ensure_total k fs
  unfold putB
  rw [e] at h1 ⊢
  rw [total_one] at h1
  rw [updM_app ha, total_one, ← h1]
  simp; omega

theorem chg_ok {st : DS} {ok : Bool} (h : (chg st ok).2 = 0) : ok = true := by
  cases ok
  · unfold chg at h; simp at h
  · rfl
theorem names_ensure {k : ByteArray} {fs : Fs} (hk : nameOk k = true) (h : ∀ x ∈ fs.map (·.1), nameOk x = true) : ∀ x ∈ (ensure k fs).map (·.1), nameOk x = true := by
  unfold ensure
  by_cases hc : (getM k fs).isSome = true
  · rw [if_pos hc]; exact h
  · rw [if_neg hc]
    intro x hx
    rw [List.map_append, List.mem_append] at hx
    rcases hx with hx | hx
    · exact h x hx
    · simp at hx; subst hx; exact hk
theorem appendG_inv {st : DS} (i : Inv st) {k : ByteArray} (hk : nameOk k = true) (xs : List Int) : Inv (appendG st k xs).1 := by
  unfold appendG
  split
  · exact i
  · exact { toCounts := ⟨i.a0, i.a1, i.f0, i.f1⟩, r0 := i.r0, r1 := i.r1, full := by simp only [putB_total]; omega, uni := uni_upd (uni_ensure i.uni k), names := by simp only [putB, updM_keys]; exact names_ensure hk i.names, sure := sure_upd (fun f h => by simp; omega) (sure_ensure i.sure k) }
theorem appendD_inv {st : DS} (i : Inv st) (k : ByteArray) (xs : List Int) : Inv (appendD st k xs).1 := by
  unfold appendD doing
  split
  · rename_i h; exact appendG_inv (chg_inv i _) (chg_ok h) xs
  · exact chg_inv i _

theorem inv_new {room : Int} (h0 : 1 ≤ room) (h1 : room ≤ 16777216) : Inv ⟨room, [], -1, -1, false⟩ :=
  { a0 := by simp, a1 := by simp, f0 := by simp, f1 := by simp, r0 := h0, r1 := h1, full := by show total [] ≤ room; rw [total_nil]; omega, uni := List.nodup_nil, names := fun _ h => (by cases h), sure := fun _ h => by cases h }

/-- One byte, given as a literal. -/
theorem ro_byte {b : Nat} {x : Int} (hc : R.m b = .none) : Ro (R.add (Heap.one b (.cells [.int .u8 x].toArray 5 (0, 0)))) ⟨some ⟨b, 0, none⟩, 1, 1⟩ (b8 [x]) :=
  ⟨rfl, by simp, fun _ => ⟨b, 0, _, 5, (0, 0), rfl, Cx.lent hc, fun i v h => by simpa using h⟩⟩

/-- The disk that all those laws begin with. -/
theorem new_ok {room : Int} (h0 : 1 ≤ room) (h1 : room ≤ 16777216) (hw : Sat R Hs w) : Gets Try.prog 10 #[.int .i64 room] w fun v w' =>
    ∃ d, v = .tuple #[.pointer (some ⟨d, 0, none⟩), .int .i64 0] ∧ Sat R (DiskAt d ⟨room, [], -1, -1, false⟩ :: Hs) w' :=
  Calls.mono (new_spec room hw) fun e w' ⟨v, he, h⟩ => by
    rcases h with ⟨hn, _⟩ | ⟨_, _, _, d, hv, hw⟩
    · unfold newErr at hn; rw [if_neg (by omega)] at hn; cases hn
    · exact ⟨v, he, d, hv, hw⟩

/-! ### DiskFails -/

/-- Behind i of these appends. -/
structure FailsAt (n : Int) (i : Nat) (st : DS) : Prop where
  inv : Inv st
  room : st.room = 10000
  size : total st.fs ≤ 1 + i
  arm : st.arm = -1
  off : st.off = false
  fail : st.fail = if (i : Int) ≤ n then n - i else -1

theorem append_fail {room : Int} {fs : Fs} {k : ByteArray} (xs : List Int) (hk : nameOk k = true) : appendD ⟨room, fs, 0, -1, false⟩ k xs = (⟨room, fs, -1, -1, false⟩, 4) := by
  unfold appendD; rw [hk]; rfl

theorem append_done {room fail : Int} {fs : Fs} {k : ByteArray} {xs : List Int} (hk : nameOk k = true) (hf : (metN fail).2 = false) (ht : total fs + xs.length ≤ room) :
    appendD ⟨room, fs, fail, -1, false⟩ k xs = (⟨room, putB k xs fs, (metN fail).1, -1, false⟩, 0) := by
  have e : chg ⟨room, fs, fail, -1, false⟩ true = (⟨room, fs, (metN fail).1, -1, false⟩, 0) := by
    unfold chg
    simp only [hf]
    rfl
  unfold appendD doing
  rw [hk, e, if_pos rfl]
  exact if_neg (by simp only; omega)

theorem fails_step {n : Int} {i : Nat} {st : DS} {k : ByteArray} (hn : 0 ≤ n) (hn2 : n ≤ 100) (hi : (i : Int) < n + 3) (hk : nameOk k = true) (h : FailsAt n i st) :
    FailsAt n (i + 1) (appendD st k [2]).1 ∧ ((i : Int) = n → (appendD st k [2]).2 = 4 ∧ total (appendD st k [2]).1.fs = total st.fs) ∧ ((i : Int) ≠ n → (appendD st k [2]).2 = 0 ∧ total (appendD st k [2]).1.fs = total st.fs + 1) := by
  have hinv := appendD_inv h.inv k [2]
  obtain ⟨room, fs, fail, arm, off⟩ := st
  obtain ⟨_, hr, hs, ha, ho, hf⟩ := h
  simp only at hr hs ha ho hf
  subst hr ha ho
  by_cases hin : (i : Int) = n
  · have hf0 : fail = 0 := by rw [hf, if_pos (by omega)]; omega
    subst hf0
    rw [append_fail [2] hk] at hinv ⊢
    refine ⟨⟨hinv, rfl, by simp only; omega, rfl, rfl, ?_⟩, fun _ => ⟨rfl, rfl⟩, fun hne => absurd hin hne⟩
    rw [if_neg (by omega)]
  · have e : (metN fail).2 = false ∧ (metN fail).1 = if ((i + 1 : Nat) : Int) ≤ n then n - (i + 1 : Nat) else -1 := by
      by_cases hlt : (i : Int) ≤ n
      · have hfi : fail = n - i := by rw [hf, if_pos hlt]
        have h1 : ¬ (fail == -1) = true := by simp; omega
        unfold metN
        rw [if_neg h1, if_pos (by omega)]
        exact ⟨by simp; omega, by simp only; omega⟩
      · have hfi : fail = -1 := by rw [hf, if_neg hlt]
        rw [hfi, if_neg (by omega)]; exact ⟨rfl, rfl⟩
    have ht := putB_total k [2] fs
    simp only [List.length_cons, List.length_nil] at ht
    rw [append_done hk e.1 (by simp; omega), e.2] at hinv ⊢
    refine ⟨⟨hinv, rfl, by simp only; omega, rfl, rfl, rfl⟩, fun h => absurd h hin, fun _ => ⟨rfl, by simp only; omega⟩⟩

theorem fails_law (n : Int) (k : ByteArray) (hw : Sat R Hs w) :
    Gets Try.prog 4 #[.int .i64 n, .string k] w fun r w' => r = .bool true ∧ Sat R Hs w' := by
  apply call4
  refine (new_ok (by decide) (by decide) hw).use ?_
  rintro _ w ⟨d, rfl, hw⟩
  have i0 : Inv ⟨10000, [], -1, -1, false⟩ := inv_new (by decide) (by decide)
  refine ⟨_, _, rfl, Sat R (DiskAt d ⟨10000, [], -1, -1, false⟩ :: Hs), Br.f rfl (Br.f rfl hw), fun z w hw => new_rule hw fun b w hw => ?_⟩
  obtain ⟨hc, hw⟩ := Sat.lend.1 hw
  refine (append_spec (k := k) i0 (ro_byte hc) (by simp) hw).use ?_
  rintro _ w ⟨rfl, hw⟩
  have hw := (Sat.lend.2 ⟨hc, hw⟩).drop
  refine ⟨_, rfl, fun w => nameOk k = true ∧ 0 ≤ n ∧ n ≤ 100 ∧ Sat R (DiskAt d (appendD ⟨10000, [], -1, -1, false⟩ k [1]).1 :: Hs) w, ?_, ?_⟩
  · have hor : (appendD ⟨10000, [], -1, -1, false⟩ k [1]).2 = if nameOk k then 0 else 1 := by
      cases hk : nameOk k
      · unfold appendD; rw [hk]; rfl
      · rw [append_done hk rfl (by decide)]; rfl
    have fin : ∀ {b : Bool}, b = true → (Value.bool b = .bool true) ∧ Sat R Hs w := fun h => ⟨by rw [h], hw.drop⟩
    have out : Br ((appendD ⟨10000, [], -1, -1, false⟩ k [1]).2 == 0) (Value.bool true = .bool true ∧ Sat R Hs w) (Value.bool ((appendD ⟨10000, [], -1, -1, false⟩ k [1]).2 == 1) = .bool true ∧ Sat R Hs w) :=
      Br.mk (fun _ => fin rfl) (fun h => fin (by rw [hor] at h ⊢; cases hk : nameOk k <;> simp_all))
    refine Br.mk (fun _ => out) (fun h => Br.mk (fun _ => out) (fun h1 => Br.mk (fun _ => out) (fun h2 => ⟨?_, by simpa using h1, by simpa using h2, hw⟩)))
    rw [hor] at h
    cases hk : nameOk k
    · rw [hk] at h; simp at h
    · rfl
  rintro z w ⟨hk, hn, hn2, hw⟩
  have i1 := appendD_inv i0 k [1]
  rw [append_done hk rfl (by decide)] at hw i1
  refine (fail_spec n hw).use ?_
  rintro _ w ⟨rfl, hw⟩
  rw [if_neg (by omega)] at hw
  refine ⟨_, rfl, fun i w => ∃ (j : Nat) (st : DS), i = j ∧ (j : Int) ≤ n + 3 ∧ FailsAt n j st ∧ Sat R (DiskAt d st :: Hs) w, fun i _ => (n + 3 - i).toNat, ⟨0, _, rfl, by omega, ⟨?_, rfl, ?_, rfl, rfl, ?_⟩, hw⟩, ?_⟩
  · exact { a0 := i1.a0, a1 := i1.a1, f0 := by simp only; omega, f1 := by simp only; omega, r0 := i1.r0, r1 := i1.r1, full := i1.full, uni := i1.uni, names := i1.names, sure := i1.sure }
  · have ht := putB_total k [1] []
    simp only [total_nil, List.length_cons, List.length_nil] at ht
    simp only; omega
  · rw [if_pos (by omega)]; simp
  rintro z _ w ⟨i, st, rfl, hi, hf, hw⟩
  rw [wrap64 (by omega) (by omega)]
  refine Br.mk (fun h => ?_) (fun h => ⟨rfl, hw.drop⟩)
  simp only [decide_eq_true_eq] at h
  obtain ⟨hf', h1, h2⟩ := fails_step hn hn2 h hk hf
  have hnn := total_nn st.fs
  have hsz := hf.size
  refine (size_spec hw).use ?_
  rintro _ w ⟨rfl, hw⟩
  refine ⟨_, rfl, new_rule hw fun b w hw => ?_⟩
  obtain ⟨hc, hw⟩ := Sat.lend.1 hw
  refine (append_spec (k := k) hf.inv (ro_byte hc) (by simp) hw).use ?_
  rintro _ w ⟨rfl, hw⟩
  have hw := (Sat.lend.2 ⟨hc, hw⟩).drop
  refine ⟨_, rfl, ?_⟩
  rw [wrap64 (x := (i : Int) + 1) (by omega) (by omega), wrap64 (x := total st.fs + 1) (by omega) (by omega)]
  have next : ∀ {w}, Sat R (DiskAt d (appendD st k [2]).1 :: Hs) w → (∃ (j : Nat) (st : DS), (i : Int) + 1 = j ∧ (j : Int) ≤ n + 3 ∧ FailsAt n j st ∧ Sat R (DiskAt d st :: Hs) w) ∧ (n + 3 - ((i : Int) + 1)).toNat < (n + 3 - (i : Int)).toNat :=
    fun hw => ⟨⟨i + 1, _, by omega, by omega, hf', hw⟩, by omega⟩
  by_cases hin : (i : Int) = n
  · obtain ⟨e1, e2⟩ := h1 hin
    rw [e1]
    refine Br.t (by simpa using hin) (Br.f rfl ?_)
    refine (size_spec hw).use ?_
    rintro _ w ⟨rfl, hw⟩
    rw [e2]
    exact ⟨_, rfl, Br.f (by simp) (Br.f (by simpa using hin) (next hw))⟩
  · obtain ⟨e1, e2⟩ := h2 hin
    rw [e1]
    refine Br.f (by simpa using hin) (Br.t (by simpa using hin) (Br.f rfl ?_))
    refine (size_spec hw).use ?_
    rintro _ w ⟨rfl, hw⟩
    rw [e2]
    exact ⟨_, rfl, Br.f (by simp) (next hw)⟩

end Go.Proofs.Ytbniilhfbfcegaa
