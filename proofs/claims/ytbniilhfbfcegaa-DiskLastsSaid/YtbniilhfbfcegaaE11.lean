/- DiskArms, DiskLasts: the laws. Condition: what the rows' readings give. -/
import Derived.Test.YtbniilhfbfcegaaE8
namespace Go.Proofs.Ytbniilhfbfcegaa
open Go Go.VC

variable {R : Cx} {Hs Rest : List HP} {w : World}

theorem chg_on {st : DS} (ha : st.arm = -1) (hf : st.fail = -1) (ho : st.off = false) : chg st true = (st, 0) := by
  obtain ⟨room, fs, fail, arm, off⟩ := st
  simp only at ha hf ho
  subst ha hf ho
  rfl
theorem doing_on {st : DS} {g : DS → DS × Int} (ha : st.arm = -1) (hf : st.fail = -1) (ho : st.off = false) : doing st true g = g st := by
  unfold doing; rw [chg_on ha hf ho]; rfl
theorem doing_bad {st : DS} {g : DS → DS × Int} : doing st false g = (st, 1) := rfl

theorem append_on {st : DS} {k : ByteArray} {xs : List Int} (hk : nameOk k = true) (ha : st.arm = -1) (hf : st.fail = -1) (ho : st.off = false) : appendD st k xs = appendG st k xs := by
  unfold appendD; rw [hk]; exact doing_on ha hf ho
theorem sync_on {st : DS} {k : ByteArray} (hk : nameOk k = true) (ha : st.arm = -1) (hf : st.fail = -1) (ho : st.off = false) : syncD st k = syncG k st := by
  unfold syncD; rw [hk]; exact doing_on ha hf ho
theorem read_on {st : DS} {k : ByteArray} (hk : nameOk k = true) (ho : st.off = false) {f : Fl} (hg : getM k st.fs = some f) : readD st k = (f.b, 0) := by
  unfold readD; rw [ho, hk, hg]; rfl

theorem getM_ensure {k : ByteArray} {fs : Fs} : getM k (ensure k fs) = some ((getM k fs).getD ⟨[], 0⟩) := by
  unfold ensure
  by_cases h : (getM k fs).isSome = true
  · rw [if_pos h]
    obtain ⟨f, hf⟩ := Option.isSome_iff_exists.1 h
    rw [hf]; rfl
  · rw [if_neg h]
    have hn : getM k fs = none := by simpa using h
    rw [getM_app hn (ba_rfl k), hn]; rfl
theorem getM_putB (k : ByteArray) (xs : List Int) (fs : Fs) : getM k (putB k xs fs) = some ⟨((getM k fs).getD ⟨[], 0⟩).b ++ xs, ((getM k fs).getD ⟨[], 0⟩).sure⟩ := by
  unfold putB; exact getM_upd getM_ensure

/-- Behind a crash: the file is cut. -/
theorem getM_upd_ne {β : Type} {k k2 : ByteArray} {g : β → β} (h : k2 ≠ k) : ∀ {l : List (ByteArray × β)}, getM k (updM k2 g l) = getM k l
  | [] => rfl
  | e :: l => by
    rw [updM]
    split
    · rename_i he
      have e1 := (MapKept.bytes_beq _ _).1 he
      have hne : ¬ (k == e.1) = true := fun hc => h (by rw [e1]; exact ((MapKept.bytes_beq _ _).1 hc).symm)
      rw [getM, getM, if_neg hne, if_neg hne]
    · rw [getM, getM, getM_upd_ne h]
theorem crashL_get {k : ByteArray} : ∀ {ks : List ByteArray} {keep : List Int} {fs : Fs} {f : Fl}, ks.Nodup → getM k fs = some f → ∃ kp, (k ∈ ks → getM k (crashL ks keep fs) = some (cutF kp f)) ∧ (k ∉ ks → getM k (crashL ks keep fs) = some f) ∧ (keep = [] → kp = none)
  | [], keep, fs, f, _, h => ⟨none, (fun h => by cases h), (fun _ => by rw [crashL]; exact h), fun _ => rfl⟩
  | k2 :: ks, keep, fs, f, hn, h => by
    rw [List.nodup_cons] at hn
    rw [crashL]
    by_cases hk : k2 = k
    · subst hk
      obtain ⟨kp, _, h1, _⟩ := crashL_get (keep := keep.tail) hn.2 (getM_upd (g := cutF keep.head?) h)
      exact ⟨keep.head?, fun _ => h1 hn.1, fun h => absurd List.mem_cons_self h, fun hk => by rw [hk]; rfl⟩
    · obtain ⟨kp, h1, h2, h3⟩ := crashL_get (keep := keep.tail) hn.2 (show getM k (updM k2 (cutF keep.head?) fs) = some f by rw [getM_upd_ne hk]; exact h)
      refine ⟨kp, fun hm => h1 ?_, fun hm => h2 fun h => hm (List.mem_cons_of_mem _ h), fun hk => h3 (by rw [hk]; rfl)⟩
      rcases List.mem_cons.1 hm with h | h
      · exact absurd h.symm hk
      · exact h
theorem names_nodup {fs : Fs} (u : Uni fs) : (namesOf fs).Nodup := by
  have h1 : ((fs.map fun e => e.1.data.toList).mergeSort (fun x y => decide (x ≤ y))).Nodup := by
    rw [(List.mergeSort_perm _ _).nodup_iff]
    have h2 : fs.map (fun e => e.1.data.toList) = (fs.map (·.1)).map fun k : ByteArray => k.data.toList := by simp
    rw [h2]
    exact List.Pairwise.map _ (fun a b hab h => hab (ba_ext h)) u
  unfold namesOf
  exact List.Pairwise.map _ (fun a b hab h => hab (by
    have := congrArg ByteArray.data h
    simpa using this)) h1
theorem crash_get {st : DS} (u : Uni st.fs) {k : ByteArray} {f : Fl} (keep : List Int) (h : getM k st.fs = some f) : ∃ kp, getM k (crashD st keep).fs = some (cutF kp f) ∧ (keep = [] → kp = none) := by
  obtain ⟨kp, h1, _, h2⟩ := crashL_get (keep := keep) (names_nodup u) h
  exact ⟨kp, h1 (mem_names.2 (by obtain ⟨a, b, e, _⟩ := getM_split h; rw [e]; simp)), h2⟩

/-! ### DiskArms -/
/-- Ahead of step i. -/
structure ArmsAt (n : Int) (i : Nat) (k : ByteArray) (st : DS) : Prop where
  inv : Inv st
  room : st.room = 10000
  size : total st.fs ≤ 1 + i
  fail : st.fail = -1
  arm : st.arm = if (i : Int) ≤ n then n - i else -1
  off : st.off = decide (n < i)
  file : ∃ b, getM k st.fs = some ⟨1 :: b, 1⟩
  len : st.fs.length ≤ 1 + i

theorem arms_step {n : Int} {i : Nat} {st : DS} {k : ByteArray} (hn : 0 ≤ n) (hn2 : n ≤ 100) (hi : (i : Int) < n + 3) (hk : nameOk k = true) (h : ArmsAt n i k st) :
    ArmsAt n (i + 1) k (appendD st k [2]).1 ∧ ((i : Int) < n → (appendD st k [2]).2 = 0 ∧ (appendD st k [2]).1.off = false) ∧ (n ≤ (i : Int) → (appendD st k [2]).2 = 5 ∧ (appendD st k [2]).1.off = true) := by
  have hinv := appendD_inv h.inv k [2]
  have hlen := append_len st k [2]
  obtain ⟨room, fs, fail, arm, off⟩ := st
  obtain ⟨_, hr, hs, hf, ha, ho, hfile, hl⟩ := h
  simp only at hr hs hf ha ho hfile hl hlen
  subst hr hf
  obtain ⟨b, hb⟩ := hfile
  by_cases h1 : (i : Int) < n
  · have hoff : off = false := by rw [ho]; simp; omega
    have harm : arm = n - i := by rw [ha, if_pos (by omega)]
    subst hoff harm
    have hne : ¬ ((n - (i : Int)) == -1) = true := by simp; omega
    have hm : metN (n - i) = (n - i - 1, false) := by unfold metN; rw [if_neg hne]; simp; omega
    have hc : chg ⟨10000, fs, -1, n - i, false⟩ true = (⟨10000, fs, -1, n - i - 1, false⟩, 0) := by
      unfold chg; simp only [hm]; rfl
    have ht : total fs + ([2] : List Int).length ≤ 10000 := by simp; omega
    have e : appendD ⟨10000, fs, -1, n - i, false⟩ k [2] = (⟨10000, putB k [2] fs, -1, n - i - 1, false⟩, 0) := by
      unfold appendD doing
      rw [hk, hc, if_pos rfl]
      exact if_neg (by simp only; omega)
    rw [e] at hinv hlen ⊢
    have hpt := putB_total k [2] fs
    refine ⟨⟨hinv, rfl, ?_, rfl, ?_, ?_, ?_, ?_⟩, fun _ => ⟨rfl, rfl⟩, fun h2 => by omega⟩
    · simp only [hpt]; simp; omega
    · simp only; rw [if_pos (by omega)]; omega
    · simp only; symm; simp; omega
    · refine ⟨b ++ [2], ?_⟩
      simp only
      rw [getM_putB, hb]; rfl
    · simp only at hlen ⊢; omega
  · by_cases h2 : (i : Int) = n
    · have hoff : off = false := by rw [ho]; simp; omega
      have harm : arm = 0 := by rw [ha, if_pos (by omega)]; omega
      subst hoff harm
      have e : appendD ⟨10000, fs, -1, 0, false⟩ k [2] = (⟨10000, fs, -1, -1, true⟩, 5) := by unfold appendD; rw [hk]; rfl
      rw [e] at hinv hlen ⊢
      refine ⟨⟨hinv, rfl, by simp only; omega, rfl, ?_, ?_, ⟨b, hb⟩, by simp only; omega⟩, fun h3 => by omega, fun _ => ⟨rfl, rfl⟩⟩
      · simp only; rw [if_neg (by omega)]
      · simp only; symm; simp; omega
    · have hoff : off = true := by rw [ho]; simp; omega
      have harm : arm = -1 := by rw [ha, if_neg (by omega)]
      subst hoff harm
      have e : appendD ⟨10000, fs, -1, -1, true⟩ k [2] = (⟨10000, fs, -1, -1, true⟩, 5) := by unfold appendD; rw [hk]; rfl
      rw [e] at hinv hlen ⊢
      refine ⟨⟨hinv, rfl, by simp only; omega, rfl, ?_, ?_, ⟨b, hb⟩, by simp only; omega⟩, fun h3 => by omega, fun _ => ⟨rfl, rfl⟩⟩
      · simp only; rw [if_neg (by omega)]
      · simp only; symm; simp; omega

theorem arms_law (n : Int) (k : ByteArray) (hw : Sat R Hs w) :
    Gets Try.prog 5 #[.int .i64 n, .string k] w fun r w' => r = .bool true ∧ Sat R Hs w' := by
  apply call5
  refine (new_ok (by decide) (by decide) hw).use ?_
  rintro _ w ⟨d, rfl, hw⟩
  have i0 : Inv ⟨10000, [], -1, -1, false⟩ := inv_new (by decide) (by decide)
  refine ⟨_, _, rfl, Sat R (DiskAt d ⟨10000, [], -1, -1, false⟩ :: Hs), Br.f rfl (Br.f rfl hw), fun z w hw => new_rule hw fun b w hw => ?_⟩
  obtain ⟨hc, hw⟩ := Sat.lend.1 hw
  refine (append_spec (k := k) i0 (ro_byte hc) (by simp) hw).use ?_
  rintro _ w ⟨rfl, hw⟩
  have hw := (Sat.lend.2 ⟨hc, hw⟩).drop
  have i1 := appendD_inv i0 k [1]
  refine ⟨_, rfl, (sync_spec i1 hw).use ?_⟩
  rintro _ w ⟨rfl, hw⟩
  refine ⟨_, rfl, fun w => nameOk k = true ∧ 0 ≤ n ∧ n ≤ 100 ∧ Sat R (DiskAt d (syncD (appendD ⟨10000, [], -1, -1, false⟩ k [1]).1 k).1 :: Hs) w, ?_, ?_⟩
  · cases hk : nameOk k
    · have e : appendD ⟨10000, [], -1, -1, false⟩ k [1] = (⟨10000, [], -1, -1, false⟩, 1) := by unfold appendD; rw [hk]; rfl
      rw [e]
      exact Br.t rfl (Br.t rfl ⟨rfl, hw.drop⟩)
    · have e : appendD ⟨10000, [], -1, -1, false⟩ k [1] = (⟨10000, putB k [1] [], -1, -1, false⟩, 0) := append_done hk rfl (by decide)
      rw [e] at hw ⊢
      have e2 : syncD ⟨10000, putB k [1] [], -1, -1, false⟩ k = syncG k ⟨10000, putB k [1] [], -1, -1, false⟩ := sync_on hk rfl rfl rfl
      have e3 : (syncG k ⟨10000, putB k [1] [], -1, -1, false⟩).2 = 0 := by
        unfold syncG
        rw [if_pos (by simp only [getM_putB]; rfl)]
      simp only at hw ⊢
      rw [e2, e3]
      rw [e2] at hw
      refine Br.f rfl (Br.f rfl ?_)
      have fin : ∀ {b : Bool}, b = true → (Value.bool b = .bool true) ∧ Sat R Hs w := fun h => ⟨by rw [h], hw.drop⟩
      refine Br.d (fun h => Br.f rfl (Br.d (fun _ => ⟨by first | rfl | trivial, hw.drop⟩) (fun h2 => absurd h h2))) (fun h => Br.d (fun h2 => Br.f rfl (Br.d (fun h3 => ⟨by first | rfl | trivial, hw.drop⟩) (fun h3 => fin (by simpa using h2)))) (fun h2 => ⟨trivial, by omega, by omega, hw⟩))
  rintro z w ⟨hk, hn, hn2, hw⟩
  have e : appendD ⟨10000, [], -1, -1, false⟩ k [1] = (⟨10000, putB k [1] [], -1, -1, false⟩, 0) := append_done hk rfl (by decide)
  have i2 := sync_inv i1 k
  rw [e] at hw i1 i2
  have e2 : syncD ⟨10000, putB k [1] [], -1, -1, false⟩ k = (⟨10000, updM k (fun f => { f with sure := f.b.length }) (putB k [1] []), -1, -1, false⟩, 0) := by
    rw [sync_on hk rfl rfl rfl]
    exact if_pos (by simp only [getM_putB]; rfl)
  simp only at hw i2
  rw [e2] at hw i2
  have hgk : getM k (updM k (fun f : Fl => { f with sure := f.b.length }) (putB k [1] [])) = some ⟨[1], 1⟩ := by
    rw [getM_upd (getM_putB k [1] [])]; rfl
  generalize hfs : updM k (fun f : Fl => { f with sure := f.b.length }) (putB k [1] []) = fs at *
  have htot : total fs = 1 := by
    rw [← hfs, updM_total (g := fun f : Fl => { f with sure := f.b.length }) (fun _ => rfl), putB_total]; rfl
  have hlen : fs.length ≤ 1 := by
    rw [← hfs, updM_len, putB, updM_len]; unfold ensure; split <;> simp
  refine (arm_spec n hw).use ?_
  rintro _ w ⟨rfl, hw⟩
  rw [if_neg (by omega)] at hw
  refine ⟨_, rfl, fun i w => ∃ (j : Nat) (st : DS), i = j ∧ (j : Int) ≤ n + 3 ∧ ArmsAt n j k st ∧ Sat R (DiskAt d st :: Hs) w, fun i _ => (n + 3 - i).toNat, ⟨0, _, rfl, by omega, ⟨?_, rfl, ?_, rfl, ?_, ?_, ⟨[], hgk⟩, ?_⟩, hw⟩, ?_⟩
  · exact { a0 := by simp only; omega, a1 := by simp only; omega, f0 := i2.f0, f1 := i2.f1, r0 := i2.r0, r1 := i2.r1, full := i2.full, uni := i2.uni, names := i2.names, sure := i2.sure }
  · simp only; omega
  · rw [if_pos (by omega)]; simp
  · simp only; symm; simp; omega
  · simp only; omega
  rintro z _ w ⟨i, st, rfl, hi, hf, hw⟩
  rw [wrap64 (by omega) (by omega)]
  (first | with_reducible refine Br.d (fun h => ?_) (fun h => ?_) | with_reducible refine Br.nd (fun h => ?_) (fun h => ?_) | with_reducible refine Br.e (fun h => ?_) (fun h => ?_) | with_reducible refine Br.ne (fun h => ?_) (fun h => ?_) | with_reducible refine Br.nne (fun h => ?_) (fun h => ?_) | with_reducible refine Br.se (fun h => ?_) (fun h => ?_) | with_reducible refine Br.sne (fun h => ?_) (fun h => ?_) | with_reducible refine Br.nb (fun h => ?_) (fun h => ?_) | with_reducible refine Br.mk (fun h => ?_) (fun h => ?_) | refine Br.d (fun h => ?_) (fun h => ?_) | refine Br.nd (fun h => ?_) (fun h => ?_) | refine Br.e (fun h => ?_) (fun h => ?_) | refine Br.ne (fun h => ?_) (fun h => ?_) | refine Br.nne (fun h => ?_) (fun h => ?_) | refine Br.se (fun h => ?_) (fun h => ?_) | refine Br.mk (fun h => ?_) (fun h => ?_))
  · obtain ⟨hf', h1, h2⟩ := arms_step hn hn2 h hk hf
    refine new_rule hw fun b w hw => ?_
    obtain ⟨hc, hw⟩ := Sat.lend.1 hw
    refine (append_spec (k := k) hf.inv (ro_byte hc) (by simp) hw).use ?_
    rintro _ w ⟨rfl, hw⟩
    have hw := (Sat.lend.2 ⟨hc, hw⟩).drop
    refine ⟨_, rfl, ?_⟩
    rw [wrap64 (x := (i : Int) + 1) (by omega) (by omega)]
    have next : ∀ {w}, Sat R (DiskAt d (appendD st k [2]).1 :: Hs) w → (∃ (j : Nat) (st : DS), (i : Int) + 1 = j ∧ (j : Int) ≤ n + 3 ∧ ArmsAt n j k st ∧ Sat R (DiskAt d st :: Hs) w) ∧ (n + 3 - ((i : Int) + 1)).toNat < (n + 3 - (i : Int)).toNat :=
      fun hw => ⟨⟨i + 1, _, by omega, by omega, hf', hw⟩, by omega⟩
    by_cases hin : (i : Int) < n
    · obtain ⟨e1, e2⟩ := h1 hin
      rw [e1]
      refine Br.f (by simp; omega) ?_
      refine (off_spec hw).use ?_
      rintro _ w ⟨rfl, hw⟩
      rw [e2]
      exact ⟨_, rfl, Br.f (by simp; omega) (next hw)⟩
    · obtain ⟨e1, e2⟩ := h2 (by omega)
      rw [e1]
      refine Br.f (by simp; omega) ?_
      refine (off_spec hw).use ?_
      rintro _ w ⟨rfl, hw⟩
      rw [e2]
      exact ⟨_, rfl, Br.f (by simp; omega) (next hw)⟩
  · have hin : (i : Int) = n + 3 := by omega
    obtain ⟨b, hb⟩ := hf.file
    have hoff : st.off = true := by rw [hf.off]; simp; omega
    refine (read_spec hf.inv hw).use ?_
    rintro _ w ⟨t, rfl, hw⟩
    have er : readD st k = ([], 5) := if_pos hoff
    rw [er] at hw ⊢
    refine ⟨_, _, rfl, ?_⟩
    have hnil : RoI R ⟨none, 0, 0⟩ [] := ⟨rfl, by simp, fun h => absurd rfl h⟩
    have hl := hf.len
    refine (crash_spec (s := ⟨none, 0, 0⟩) hf.inv hnil (by omega) hw.drop).use ?_
    rintro _ w ⟨rfl, hw⟩
    have i3 := crash_inv hf.inv []
    refine ⟨rfl, (read_spec i3 hw).use ?_⟩
    rintro _ w ⟨t2, rfl, hw⟩
    obtain ⟨kp, hg, hkp⟩ := crash_get hf.inv.uni [] hb
    rw [hkp rfl] at hg
    have er2 : readD (crashD st []) k = ([1], 0) := by
      rw [read_on hk rfl hg]; rfl
    rw [er2] at hw ⊢
    refine ⟨_, _, rfl, Br.t rfl (Br.t rfl ⟨_, convS_own (xs := [1]) (eqS hw) (by simp), Br.t (by rw [str_eql, decide_eq_true]; rfl) ?_⟩)⟩
    refine (off_spec hw.drop).use ?_
    rintro _ w ⟨rfl, hw⟩
    exact ⟨_, rfl, rfl, hw.drop⟩

end Go.Proofs.Ytbniilhfbfcegaa
