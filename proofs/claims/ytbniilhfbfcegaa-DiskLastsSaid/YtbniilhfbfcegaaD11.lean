/- The disk: Clone, Read, Crash. Condition: bounds on lengths. -/
import Derived.Test.YtbniilhfbfcegaaD10
namespace Go.Proofs.Ytbniilhfbfcegaa
open Go Go.VC

variable {R : Cx} {Hs Rest : List HP} {w : World}

theorem elB8 : El Try.prog 31 31 5 1 := ⟨Try.underlying31, ⟨_, Try.underlying31⟩, by kernel_rfl⟩

theorem one_b8 (xs : List Int) : oneAll (b8 xs) = true := by unfold oneAll; simp [Value.oneCell']

/-- A copy of bytes that are only read. -/
theorem clone_spec {s : Sl} {xs : List Int} (hs : Ro R s (b8 xs)) (hl : xs.length ≤ 1099511627776) (hw : Sat R Hs w) :
    Gets Try.prog 30 #[.slice s.a s.len s.cap] w fun r w' => ∃ t : Sl, r = .slice t.a t.len t.cap ∧ Sat R (Own t 5 (b8 xs) :: Hs) w' := by
  apply call30
  refine Br.mk (fun h => ?_) (fun h => ?_)
  · have hx : xs = [] := by
      by_cases hx : b8 xs = []
      · simpa using hx
      · obtain ⟨b, off, _, _, _, ha, _⟩ := hs.mem hx
        rw [ha] at h; cases h
    subst hx
    exact ⟨⟨none, 0, 0⟩, rfl, Own.nil hw⟩
  · refine new_rule hw fun b w hw => ?_
    have h0 : Sat R (Own ⟨some ⟨b, 0, none⟩, 0, 0⟩ 5 [] :: Hs) w := Own.of_pts (xs := []) (rest := []) hw
    have hsrc : Src Try.prog 1 31 (.slice s.a s.len s.cap) xs.length (b8 xs) w := by
      have := srcRo Try.underlying31 h0 hs (one_b8 xs)
      simpa using this
    have := append_rule (ty := 31) (K := fun t w' => ∃ u : Sl, Value.slice t.a t.len t.cap = .slice u.a u.len u.cap ∧ Sat R (Own u 5 (b8 xs) :: Hs) w') elB8 h0 hsrc rfl (by simp; omega) (by simp; omega) fun t w hw => ⟨t, rfl, by simpa using hw⟩
    exact this

/-- What Read tells. -/
def readD (st : DS) (k : ByteArray) : List Int × Int :=
  if st.off then ([], 5) else if !nameOk k then ([], 1) else match getM k st.fs with | none => ([], 2) | some f => (f.b, 0)

theorem total_le {k : ByteArray} {f : Fl} {fs : Fs} (h : getM k fs = some f) : (f.b.length : Int) ≤ total fs := by
  have := total_get h; have := total_nn (delM k fs); omega

theorem read_spec {d : Nat} {st : DS} {k : ByteArray} (i : Inv st) (hw : Sat R (DiskAt d st :: Hs) w) :
    Gets Try.prog 18 #[.pointer (some ⟨d, 0, none⟩), .string k] w fun r w' => ∃ t : Sl, r = .tuple #[.slice t.a t.len t.cap, .int .i64 (readD st k).2] ∧ Sat R (Own t 5 (b8 (readD st k).1) :: DiskAt d st :: Hs) w' := by
  have hw0 := hw
  obtain ⟨m, E, hE, hw⟩ := Sat.disk.1 hw
  apply call18
  refine NilP.mk rfl ⟨st.off, At.own (eqS hw) (by exact ⟨rfl, trivial⟩), Br.mk (fun ho => ?_) (fun ho => new_rule hw0 fun bt w hw => ?_)⟩
  · have e : readD st k = ([], 5) := if_pos ho
    rw [e]; exact ⟨⟨none, 0, 0⟩, rfl, Own.nil hw0⟩
  obtain ⟨hc, hwl⟩ := Sat.lend.1 hw
  refine (named_spec (names := [k]) hwl (ro_one hc) (by simp)).use ?_
  rintro _ w ⟨rfl, hw⟩
  have hw := (Sat.lend.2 ⟨hc, hw⟩).drop
  rw [all_one]
  refine ⟨_, rfl, Br.mk (fun hn => ?_) (fun hn => ?_)⟩
  · have e : readD st k = ([], 1) := by unfold readD; rw [if_neg (by simp [ho]), if_pos hn]
    rw [e]; exact ⟨⟨none, 0, 0⟩, rfl, Own.nil hw⟩
  obtain ⟨m, E, hE, hw⟩ := Sat.disk.1 hw
  refine NilP.mk rfl ⟨some m, At.own (eqS hw) (by exact ⟨rfl, trivial⟩), _, _, fun w' hw' => DO.look (eqS hw _ hw') k true, ?_⟩
  have e : readD st k = match getM k st.fs with | none => ([], 2) | some f => (f.b, 0) := by unfold readD; rw [if_neg (by simp [ho]), if_neg (by simp [hn])]
  refine Br.mk (fun hk => ?_) (fun hk => ?_)
  · simp only [Bool.not_eq_true', Option.isSome_eq_false_iff, Option.isNone_iff_eq_none] at hk
    have hk2 : getM k st.fs = none := by rw [← hE, er_get, hk]; rfl
    rw [e, hk2]
    exact ⟨⟨none, 0, 0⟩, rfl, Own.nil (DO.shut hE hw)⟩
  · simp only [Bool.not_eq_false'] at hk
    obtain ⟨⟨q, f⟩, hf⟩ := Option.isSome_iff_exists.1 hk
    have hk2 : getM k st.fs = some f := by rw [← hE, er_get, hf]; rfl
    obtain ⟨a, b, rfl, ha⟩ := getM_split hf
    rw [hf, e, hk2]
    have hlen := total_le hk2
    have r1 := i.r1; have hfull := i.full
    have hw : Sat R (FilesAt (a ++ (k, q, f) :: b) :: pts d (dCells st m) :: MapAt m (ptrs (a ++ (k, q, f) :: b)) :: Hs) w := (hw.cons fun _ h => h.swap).swap
    obtain ⟨s, hw⟩ := Sat.file.1 (Sat.split.1 hw)
    simp only at hw
    refine NilP.mk rfl ⟨s, by rw [add_off]; exact At.own (eqS hw) (by exact ⟨rfl, trivial⟩), ?_⟩
    obtain ⟨R', hr, _, hw, back⟩ := Own.lend hw.swap (by rw [List.length_map]; omega)
    refine (clone_spec hr (by omega) hw).use ?_
    rintro _ w ⟨t, rfl, hw⟩
    refine ⟨t, rfl, t, rfl, (back hw).swap.cons fun _ h => ?_⟩
    have h2 : Sat _ (FilesAt (a ++ (k, q, f) :: b) :: pts d (dCells st m) :: MapAt m (ptrs (a ++ (k, q, f) :: b)) :: Hs) w := Sat.split.2 (Sat.file.2 ⟨s, h.swap⟩)
    exact DO.shut hE (h2.swap.cons fun _ h => h.swap)

/-- A shorter part of a slice that one owns. -/
theorem Own.short {s : Sl} {T : TypeId} {xs : List Value} (hw : Sat R (Own s T xs :: Hs) w) {n : Nat} (hn : n ≤ xs.length) : Sat R (Own ⟨s.a, n, s.cap⟩ T (xs.take n) :: Hs) w := by
  rcases Own.cases hw with ⟨rfl, rfl, h⟩ | ⟨b, rest, fr, rfl, hf, h⟩
  · obtain rfl : n = 0 := by simpa using hn
    exact Own.nil h
  · have e : xs ++ rest = xs.take n ++ (xs.drop n ++ rest) := by rw [← List.append_assoc, List.take_append_drop]
    rw [e] at h hf
    have h2 := Own.of_pts h hf
    have e2 : (xs.take n).length = n := by simp; omega
    rw [e2] at h2
    have e3 : (xs.take n ++ (xs.drop n ++ rest)).length = (xs ++ rest).length := by rw [← e]
    rw [e3] at h2
    exact h2

/-! ### Crash -/

/-- How many of the bytes that were not synced stay. -/
def stay (kp : Option Int) (f : Fl) : Nat := match kp with | none => 0 | some x => (min (max x 0) ((f.b.length : Int) - f.sure)).toNat
def cutF (kp : Option Int) (f : Fl) : Fl := ⟨f.b.take (f.sure + stay kp f), f.sure + stay kp f⟩
def crashL : List ByteArray → List Int → Fs → Fs
  | [], _, fs => fs
  | k :: ks, keep, fs => crashL ks keep.tail (updM k (cutF keep.head?) fs)
def crashD (st : DS) (keep : List Int) : DS := ⟨st.room, crashL (namesOf st.fs) keep st.fs, -1, -1, false⟩

theorem stay_le (kp : Option Int) (f : Fl) (h : f.sure ≤ f.b.length) : f.sure + stay kp f ≤ f.b.length := by
  unfold stay; split
  · omega
  · omega

theorem getM_upd {β : Type} {k : ByteArray} {g : β → β} : ∀ {l : List (ByteArray × β)} {v : β}, getM k l = some v → getM k (updM k g l) = some (g v)
  | [], _, h => by cases h
  | e :: l, v, h => by
    rw [getM] at h
    rw [updM]
    split at h
    · rename_i hk; rw [if_pos hk, getM, if_pos hk]; simp only [Option.some.injEq] at h ⊢; rw [h]
    · rename_i hk; rw [if_neg hk, getM, if_neg hk]; exact getM_upd h

theorem total_upd {k : ByteArray} {g : Fl → Fl} {fs : Fs} {f : Fl} (h : getM k fs = some f) : total (updM k g fs) = total fs - f.b.length + (g f).b.length := by
  obtain ⟨a, b, rfl, ha⟩ := getM_split h
  rw [updM_app ha, total_one, total_one]; omega

theorem mem_names {fs : Fs} {k : ByteArray} : k ∈ namesOf fs ↔ k ∈ fs.map (·.1) := by
  unfold namesOf
  rw [List.mem_map]
  constructor
  · rintro ⟨l, hl, rfl⟩
    rw [List.mem_mergeSort, List.mem_map] at hl
    obtain ⟨e, he, rfl⟩ := hl
    exact List.mem_map.2 ⟨e, he, by simp⟩
  · intro h
    obtain ⟨e, he, rfl⟩ := List.mem_map.1 h
    exact ⟨e.1.data.toList, by rw [List.mem_mergeSort]; exact List.mem_map.2 ⟨e, he, rfl⟩, by simp⟩

theorem isSome_of_mem {β : Type} {k : ByteArray} {l : List (ByteArray × β)} (h : k ∈ l.map (·.1)) : (getM k l).isSome = true := by
  cases hg : getM k l with
  | some _ => rfl
  | none => exact absurd h (notin_of_getM hg)

theorem namesOf_len (fs : Fs) : (namesOf fs).length = fs.length := by simp [namesOf]

theorem crash_spec {d : Nat} {st : DS} {s : Sl} {keep : List Int} (i : Inv st) (hs : RoI R s keep) (hc : st.fs.length ≤ 1000000) (hw : Sat R (DiskAt d st :: Hs) w) :
    Gets Try.prog 19 #[.pointer (some ⟨d, 0, none⟩), .slice s.a s.len s.cap] w fun r w' => r = .tuple #[] ∧ Sat R (DiskAt d (crashD st keep) :: Hs) w' := by
  have r1 := i.r1
  have hfull := i.full
  have hsl := hs.len
  have hsb := hs.bound
  apply call19
  refine (names_spec i hc hw).use ?_
  rintro _ w ⟨t, rfl, hw⟩
  refine ⟨t, rfl, ?_⟩
  have hnl := namesOf_len st.fs
  obtain ⟨R', hr, up, hw, back⟩ := Own.lend hw (by rw [List.length_map, hnl]; omega)
  have htl : t.len = (namesOf st.fs).length := by have := hr.len; simpa using this
  refine ⟨fun x w => ∃ (k : Nat) (fs : Fs), x = k ∧ k ≤ (namesOf st.fs).length ∧ crashL (namesOf st.fs) keep st.fs = crashL ((namesOf st.fs).drop k) (keep.drop k) fs ∧ fs.map (·.1) = st.fs.map (·.1) ∧ total fs ≤ total st.fs ∧ SureOk fs ∧
    Sat R' (DiskAt d { st with fs := fs } :: Hs) w, fun x _ => (namesOf st.fs).length - x.toNat, ⟨0, st.fs, rfl, Nat.zero_le _, rfl, rfl, Int.le_refl _, i.sure, hw⟩, ?_⟩
  rintro z _ w ⟨k, fs, rfl, hk, he, hkeys, htot, hsure, hw⟩
  refine Br.mk (fun h => ?_) (fun h => ?_) <;> simp only [decide_eq_true_eq, decide_eq_false_iff_not] at h
  · have hk' : k < (namesOf st.fs).length := by omega
    rw [drop_get hk'] at he
    refine hr.idxStr (eqS hw) hk' ?_
    generalize hnm : (namesOf st.fs)[k] = nm at he
    have hmem : nm ∈ fs.map (·.1) := by rw [hkeys]; exact mem_names.1 (by rw [← hnm]; exact List.getElem_mem _)
    obtain ⟨m, E, hE, hw⟩ := Sat.disk.1 hw
    refine NilP.mk rfl ⟨some m, At.own (eqS hw) (by exact ⟨rfl, trivial⟩), _, fun w' hw' => DO.look (eqS hw _ hw') nm false, ?_⟩
    obtain ⟨⟨q, f⟩, hf⟩ := Option.isSome_iff_exists.1 (isSome_of_mem (l := E) (by rw [← er_keys, hE]; exact hmem))
    obtain ⟨a, b, rfl, ha⟩ := getM_split hf
    rw [hf]
    have hgf : getM nm fs = some f := by show getM nm ({ st with fs := fs } : DS).fs = _; rw [← hE, er_get, hf]; rfl
    have hfl := total_le hgf
    have hsf : f.sure ≤ f.b.length := by
      obtain ⟨a, b, e, _⟩ := getM_split hgf
      exact hsure (nm, f) (by rw [e]; simp)
    have hw : Sat R' (FilesAt (a ++ (nm, q, f) :: b) :: pts d (dCells { st with fs := fs } m) :: MapAt m (ptrs (a ++ (nm, q, f) :: b)) :: Hs) w := (hw.cons fun _ h => h.swap).swap
    obtain ⟨sf, hw⟩ := Sat.file.1 (Sat.split.1 hw)
    simp only at hw
    have hlf : sf.len = f.b.length := by have := Own.len hw.swap; rwa [List.length_map] at this
    have hcap : sf.len ≤ sf.cap := Own.cap hw.swap
    refine ⟨fun n w => n = stay (keep.drop k).head? f ∧ Sat R' (pts q (.cells [.slice sf.a sf.len sf.cap, .int .i64 f.sure].toArray 61 (0, 0)) :: Own sf 5 (b8 f.b) :: FilesAt (a ++ b) :: pts d (dCells { st with fs := fs } m) :: MapAt m (ptrs (a ++ (nm, q, f) :: b)) :: Hs) w, ?_, ?_⟩
    · refine Br.mk (fun h2 => ?_) (fun h2 => ?_) <;> simp only [decide_eq_true_eq, decide_eq_false_iff_not] at h2
      · have hk2 : k < keep.length := by omega
        refine drw_rule hw fun w hw => ?_
        refine (show RoI R' s keep from up _ _ hs).idx selfS hk2 ?_
        refine NilP.mk rfl ⟨_, by rw [add_off]; exact At.own selfS (by exact ⟨rfl, trivial⟩), NilP.mk rfl ⟨_, At.own selfS (by exact ⟨rfl, trivial⟩), ?_, hw⟩⟩
        rw [wrap64 (by omega) (by omega), drop_get hk2]
        simp only [List.head?_cons, stay]
        generalize keep[k] = x
        rw [hlf]
        split <;> split <;> omega
      · refine ⟨?_, hw⟩
        rw [List.drop_eq_nil_of_le (by omega)]; rfl
    rintro z n w ⟨rfl, hw⟩
    have hst := stay_le (keep.drop k).head? f hsf
    generalize hn : stay (keep.drop k).head? f = n at hst
    have hgt : cutF (keep.drop k).head? f = ⟨f.b.take (f.sure + n), f.sure + n⟩ := by unfold cutF; rw [hn]
    refine drw_rule hw fun w hw => ?_
    refine NilP.mk rfl ⟨total fs, At.own selfS (by exact ⟨rfl, trivial⟩), NilP.mk rfl ⟨_, by rw [add_off]; exact At.own selfS (by exact ⟨rfl, trivial⟩), NilP.mk rfl ⟨_, At.own selfS (by exact ⟨rfl, trivial⟩), NilP.mk rfl ?_⟩⟩⟩
    have hnn := total_nn fs
    rw [wrap64 (x := (sf.len : Int) - f.sure) (by omega) (by omega), wrap64 (x := (sf.len : Int) - f.sure - n) (by omega) (by omega), wrap64 (by omega) (by omega)]
    refine store_rule hw (by kernel_rfl) rfl (by simp [Value.cells, putL_len]) fun w hw => ?_
    have ef : crashL (nm :: (namesOf st.fs).drop (k + 1)) (keep.drop k) fs = crashL ((namesOf st.fs).drop (k + 1)) (keep.drop (k + 1)) (updM nm (cutF (keep.drop k).head?) fs) := by
      rw [crashL, List.tail_drop]
    have hw := hw.take (pts q (.cells [.slice sf.a sf.len sf.cap, .int .i64 f.sure].toArray 61 (0, 0)))
    refine drw_rule hw fun w hw => ?_
    refine NilP.mk rfl ⟨_, by rw [add_off]; exact At.own selfS (by exact ⟨rfl, trivial⟩), NilP.mk rfl ⟨_, At.own selfS (by exact ⟨rfl, trivial⟩), ?_⟩⟩
    rw [wrap64 (by omega) (by omega)]
    refine ⟨by omega, by omega, NilP.mk rfl ?_⟩
    rw [add_off, show ((f.sure : Int) + n).toNat = f.sure + n by omega]
    refine store_rule hw (by kernel_rfl) rfl (by simp [Value.cells, putL_len]) fun w hw => ?_
    refine NilP.mk rfl ⟨⟨sf.a, f.sure + n, sf.cap⟩, by rw [add_off]; exact At.own (eqS hw) (by exact ⟨rfl, trivial⟩), NilP.mk rfl ?_⟩
    refine store_rule hw (by kernel_rfl) rfl (by simp [Value.cells, putL_len]) fun w hw => ?_
    rw [wrap64 (by omega) (by omega)]
    have hw : Sat R' (pts q (.cells [.slice sf.a (f.sure + n) sf.cap, .int .i64 (f.sure + n : Nat)].toArray 61 (0, 0)) :: pts d (.cells [.int .i64 st.room, .int .i64 (total fs - ((sf.len : Int) - f.sure - n)), .map (some m), .int .i64 st.fail, .int .i64 st.arm, .bool st.off].toArray 53 (0, 0)) ::
        Own sf 5 (b8 f.b) :: FilesAt (a ++ b) :: MapAt m (ptrs (a ++ (nm, q, f) :: b)) :: Hs) w := hw
    have hw := Own.short (hw.take (Own sf 5 (b8 f.b))) (n := f.sure + n) (by simpa using hst)
    have hw : Sat R' (pts q (.cells [.slice sf.a (f.sure + n) sf.cap, .int .i64 (f.sure + n : Nat)].toArray 61 (0, 0)) :: Own ⟨sf.a, f.sure + n, sf.cap⟩ 5 (b8 (f.b.take (f.sure + n))) :: FilesAt (a ++ b) ::
        pts d (.cells [.int .i64 st.room, .int .i64 (total fs - ((sf.len : Int) - f.sure - n)), .map (some m), .int .i64 st.fail, .int .i64 st.arm, .bool st.off].toArray 53 (0, 0)) :: MapAt m (ptrs (a ++ (nm, q, f) :: b)) :: Hs) w := by
      rw [show b8 (f.b.take (f.sure + n)) = (b8 f.b).take (f.sure + n) from List.map_take]
      exact hw.swap.cons fun _ h => h.cons fun _ h => h.swap
    have hw : Sat R' (FilesAt (a ++ (nm, q, cutF (keep.drop k).head? f) :: b) :: _) w := Sat.split.2 (Sat.file.2 ⟨⟨sf.a, f.sure + n, sf.cap⟩, by rw [hgt]; exact hw⟩)
    have et := total_upd (g := cutF (keep.drop k).head?) hgf
    have e4 : total fs - ((sf.len : Int) - f.sure - n) = total (updM nm (cutF (keep.drop k).head?) fs) := by
      rw [et, hgt]; simp; omega
    rw [e4] at hw
    have efs : fs = er a ++ (nm, f) :: er b := by rw [← er_cons (nm, q, f), ← er_app]; exact hE.symm
    refine ⟨⟨k + 1, updM nm (cutF (keep.drop k).head?) fs, by omega, by omega, by rw [he, ef], by rw [updM_keys]; exact hkeys, by rw [← e4]; omega, sure_upd (fun f hf => ?_) hsure, ?_⟩, by dsimp only; omega⟩
    · have := stay_le (keep.drop k).head? f hf
      show f.sure + stay (keep.drop k).head? f ≤ (f.b.take (f.sure + stay (keep.drop k).head? f)).length
      rw [List.length_take]; omega
    · refine Sat.disk.2 ⟨m, a ++ (nm, q, cutF (keep.drop k).head? f) :: b, ?_, ?_⟩
      · simp only
        conv => rhs; rw [efs]
        rw [er_app, er_cons, updM_app (by rw [er_get, ha]; rfl)]
      · have ep : ptrs (a ++ (nm, q, cutF (keep.drop k).head? f) :: b) = ptrs (a ++ (nm, q, f) :: b) := by simp [ptrs]
        rw [ep]
        exact hw.swap.cons fun _ h => h.swap
  · have : k = (namesOf st.fs).length := by omega
    subst this
    rw [List.drop_length, crashL] at he
    obtain ⟨m, E, hE, hw⟩ := Sat.disk.1 hw
    refine NilP.mk rfl (store_rule hw (by kernel_rfl) rfl (by simp [Value.cells, putL_len]) fun w hw => ?_)
    refine NilP.mk rfl (store_rule hw (by kernel_rfl) rfl (by simp [Value.cells, putL_len]) fun w hw => ?_)
    refine NilP.mk rfl (store_rule hw (by kernel_rfl) rfl (by simp [Value.cells, putL_len]) fun w hw => ⟨rfl, ?_⟩)
    have hw : Sat R' (DiskAt d (crashD st keep) :: Hs) w := Sat.disk.2 ⟨m, E, by rw [hE]; exact he.symm, by
      unfold crashD; rw [he]; exact hw⟩
    exact (back hw).drop

end Go.Proofs.Ytbniilhfbfcegaa
