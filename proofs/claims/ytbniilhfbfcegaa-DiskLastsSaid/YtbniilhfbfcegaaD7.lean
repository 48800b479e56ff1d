/- The disk: Sync, Unlink, Rename. Condition: none. -/
import Derived.Test.YtbniilhfbfcegaaD6
namespace Go.Proofs.Ytbniilhfbfcegaa
open Go Go.VC

variable {R : Cx} {Hs Rest : List HP} {w : World}

theorem updM_total {k : ByteArray} {g : Fl → Fl} (hg : ∀ f, (g f).b.length = f.b.length) : ∀ fs : Fs, total (updM k g fs) = total fs
  | [] => rfl
  | e :: fs => by
    rw [updM]
    split
    · rw [total_cons, total_cons, hg]
    · rw [total_cons, total_cons, updM_total hg fs]
theorem delM_total (k : ByteArray) : ∀ fs : Fs, total (delM k fs) ≤ total fs
  | [] => Int.le_refl _
  | e :: fs => by
    rw [delM]
    split
    · rw [total_cons]; omega
    · rw [total_cons, total_cons]; have := delM_total k fs; omega

/-! ### Sync -/

def syncG (k : ByteArray) (st : DS) : DS × Int := if (getM k st.fs).isSome then ({ st with fs := updM k (fun f => { f with sure := f.b.length }) st.fs }, 0) else (st, 2)
def syncD (st : DS) (k : ByteArray) : DS × Int := doing st (nameOk k) (syncG k)

theorem sync1_spec {d m q : Nat} {st : DS} {a b : List DE} {k : ByteArray} {f : Fl} (ha : getM k a = none) (hE : er (a ++ (k, q, f) :: b) = st.fs) (hw : Sat R (DO d m (a ++ (k, q, f) :: b) st Hs) w) :
    Gets Try.prog 28 #[.pointer (some ⟨q, 0, none⟩)] w fun r w' => r = .tuple #[] ∧ (syncG k st).2 = 0 ∧ Sat R (DiskAt d (syncG k st).1 :: Hs) w' := by
  have hk : getM k st.fs = some f := by rw [← hE, er_app, er_cons, getM_app (by rw [er_get, ha]; rfl) (ba_rfl k)]
  have e : syncG k st = ({ st with fs := updM k (fun f => { f with sure := f.b.length }) st.fs }, 0) := if_pos (by rw [hk]; rfl)
  rw [e]
  have hw : Sat R (FilesAt (a ++ (k, q, f) :: b) :: pts d (dCells st m) :: MapAt m (ptrs (a ++ (k, q, f) :: b)) :: Hs) w := (hw.cons fun _ h => h.swap).swap
  obtain ⟨s, hw⟩ := Sat.file.1 (Sat.split.1 hw)
  apply call28
  have hlen : s.len = f.b.length := by have := Own.len hw.swap; rwa [List.length_map] at this
  refine NilP.mk rfl ⟨s, by rw [add_off]; exact At.own (eqS hw) (by exact ⟨rfl, trivial⟩), NilP.mk rfl ?_⟩
  refine store_rule hw (by kernel_rfl) rfl (by simp [Value.cells]) fun w hw => ⟨rfl, rfl, ?_⟩
  have hw : Sat R (pts q (.cells [.slice s.a s.len s.cap, .int .i64 (f.b.length : Nat)].toArray 61 (0, 0)) :: Own s 5 (b8 f.b) :: FilesAt (a ++ b) :: pts d (dCells st m) :: MapAt m (ptrs (a ++ (k, q, f) :: b)) :: Hs) w := by
    rw [← hlen]; exact hw
  have hw : Sat R (FilesAt (a ++ (k, q, { f with sure := f.b.length }) :: b) :: pts d (dCells st m) :: MapAt m (ptrs (a ++ (k, q, f) :: b)) :: Hs) w := Sat.split.2 (Sat.file.2 ⟨s, hw⟩)
  refine Sat.disk.2 ⟨m, a ++ (k, q, { f with sure := f.b.length }) :: b, ?_, ?_⟩
  · rw [← hE, er_app, er_cons, er_app, er_cons, updM_app]
    rw [er_get, ha]; rfl
  · have ep : ptrs (a ++ (k, q, { f with sure := f.b.length }) :: b) = ptrs (a ++ (k, q, f) :: b) := by simp [ptrs]
    rw [ep]
    unfold dCells
    simp only [updM_total (g := fun f => { f with sure := f.b.length }) (fun _ => rfl)]
    exact hw.swap.cons fun _ h => h.swap

/-- The name of a change of one. -/
theorem sync_spec {d : Nat} {st : DS} {k : ByteArray} (i : Inv st) (hw : Sat R (DiskAt d st :: Hs) w) :
    Gets Try.prog 15 #[.pointer (some ⟨d, 0, none⟩), .string k] w fun r w' => r = .int .i64 (syncD st k).2 ∧ Sat R (DiskAt d (syncD st k).1 :: Hs) w' := by
  apply call15
  refine (one_spec (v := .func (.func 28) #[] #[]) (syncG k) i rfl hw ?_ ?_).use ?_
  · intro R X st m a q f b w _ ha hE hw
    show Calls Try.prog _ _ w _
    refine (sync1_spec ha hE hw).use ?_
    rintro _ w ⟨rfl, h⟩; exact ⟨rfl, h⟩
  · intro st h; unfold syncG; rw [h]; rfl
  · rintro c w ⟨Hs', hw, back, k2⟩
    refine ⟨c, rfl, new_rule hw fun bt w hw => ?_⟩
    obtain ⟨hc, hw⟩ := Sat.lend.1 hw
    refine (k2 _ _ [k] w hw (ro_one hc) (by simp)).use ?_
    rw [all_one]
    rintro _ w ⟨rfl, hw⟩
    exact ⟨_, rfl, rfl, (Sat.lend.2 ⟨hc, hw⟩).drop.cons fun _ h => back _ _ h⟩

theorem sync_inv {st : DS} (i : Inv st) (k : ByteArray) : Inv (syncD st k).1 := by
  have hg : ∀ {st}, Inv st → Inv (syncG k st).1 := fun {st} i => by
    unfold syncG
    split
    · exact { toCounts := ⟨i.a0, i.a1, i.f0, i.f1⟩, r0 := i.r0, r1 := i.r1, full := by simp only; rw [updM_total (g := fun f => { f with sure := f.b.length }) (fun _ => rfl)]; exact i.full, uni := uni_upd i.uni, names := by simp only [updM_keys]; exact i.names, sure := sure_upd (fun f _ => Nat.le_refl _) i.sure }
    · exact i
  unfold syncD doing
  split
  · exact hg (chg_inv i _)
  · exact chg_inv i _

/-! ### A file is gone -/

theorem gone_spec {d : Nat} {st : DS} (i : Inv st) (k : ByteArray) (hw : Sat R (DiskAt d st :: Hs) w) :
    Gets Try.prog 51 #[.pointer (some ⟨d, 0, none⟩), .string k] w fun r w' => r = .tuple #[] ∧ Sat R (DiskAt d { st with fs := delM k st.fs } :: Hs) w' := by
  obtain ⟨m, E, hE, hw⟩ := Sat.disk.1 hw
  have hnn := total_nn st.fs
  have r1 := i.r1; have hfull := i.full
  apply call51
  refine NilP.mk rfl ⟨some m, At.own (eqS hw) (by exact ⟨rfl, trivial⟩), _, _, fun w' hw' => DO.look (eqS hw _ hw') k true, ?_⟩
  refine Br.mk (fun hk => ?_) (fun hk => ?_)
  · obtain ⟨⟨q, f⟩, hf⟩ := Option.isSome_iff_exists.1 hk
    obtain ⟨a, b, rfl, ha⟩ := getM_split hf
    rw [hf]
    have ht : total st.fs = total (er a ++ er b) + f.b.length := by rw [← hE, er_app, er_cons, total_one]
    have hnn2 := total_nn (er a ++ er b)
    have hw : Sat R (FilesAt (a ++ (k, q, f) :: b) :: pts d (dCells st m) :: MapAt m (ptrs (a ++ (k, q, f) :: b)) :: Hs) w := (hw.cons fun _ h => h.swap).swap
    obtain ⟨s, hw⟩ := Sat.file.1 (Sat.split.1 hw)
    have hlen : s.len = f.b.length := by have := Own.len hw.swap; rwa [List.length_map] at this
    refine drw_rule hw fun w hw => ?_
    refine NilP.mk rfl ⟨total st.fs, At.own selfS (by exact ⟨rfl, trivial⟩), NilP.mk rfl ⟨s, by rw [add_off]; exact At.own selfS (by exact ⟨rfl, trivial⟩), NilP.mk rfl ?_⟩⟩
    rw [wrap64 (by omega) (by omega)]
    refine store_rule hw (by kernel_rfl) rfl (by simp [Value.cells]) fun w hw => NilP.mk rfl ⟨some m, At.own (eqS hw) (by exact ⟨rfl, trivial⟩), ?_⟩
    refine MapAt.del mapT (hw.take (MapAt m (ptrs (a ++ (k, q, f) :: b)))) k fun w hw => ⟨rfl, ?_⟩
    have ep : delM k (ptrs (a ++ (k, q, f) :: b)) = ptrs (a ++ b) := by
      rw [ptrs_app, show ptrs ((k, q, f) :: b) = (k, Value.pointer (some ⟨q, 0, none⟩)) :: ptrs b from rfl, delM_app (by rw [ptrs_get, ha]; rfl) (ba_rfl k), ← ptrs_app]
    have ef : delM k st.fs = er (a ++ b) := by rw [← hE, er_app, er_cons, delM_app (by rw [er_get, ha]; rfl) (ba_rfl k), ← er_app]
    rw [ep] at hw
    refine Sat.disk.2 ⟨m, a ++ b, ef.symm, ?_⟩
    unfold dCells
    simp only [ef, er_app]
    have e3 : total st.fs - (s.len : Int) = total (er a ++ er b) := by omega
    rw [e3] at hw
    exact hw.swap.cons fun _ h => h.cons fun _ h => h.drop.drop
  · simp only [Option.isSome_eq_false_iff, Option.isNone_iff_eq_none] at hk
    have e : delM k st.fs = st.fs := by
      have hk2 : getM k st.fs = none := by rw [← hE, er_get, hk]; rfl
      have : ∀ l : Fs, getM k l = none → delM k l = l := fun l => by
        induction l with
        | nil => intro _; rfl
        | cons e l ih =>
          intro h
          rw [getM] at h
          split at h
          · cases h
          · rename_i hne; rw [delM, if_neg hne, ih h]
      exact this _ hk2
    refine ⟨rfl, ?_⟩
    rw [e]; exact Sat.disk.2 ⟨m, E, hE, hw⟩

end Go.Proofs.Ytbniilhfbfcegaa
