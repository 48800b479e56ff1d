/- The disk: Unlink, Rename. Condition: none. -/
import Derived.Test.YtgfneeoponiibaaGreatB4
import Derived.Shelf.SlIter.Nil
import Derived.Shelf.SortM.Plain
import Derived.Shelf.SortM.SortNone
import Derived.Ground.GgzProg
import Derived.Ground.SlgmProg
import Derived.Test.YtgfneeoponiibaaGreatProg
import Derived.Test.YtgfneeoponiibaaGreatB3
import Derived.Test.YtgfneeoponiibaaGreatB2
namespace Go.Proofs.YtgfneeoponiibaaGreat
open Go Go.VC

variable {R : Cx} {Hs Rest : List HP} {w : World}

theorem delM_sub {β : Type} (k : ByteArray) : ∀ l : List (ByteArray × β), (delM k l).Sublist l
  | [] => List.Sublist.refl _
  | x :: l => by
    rw [delM]; split
    · exact List.sublist_cons_self _ _
    · exact (delM_sub k l).cons_cons _
theorem uni_del {fs : Fs} (h : Uni fs) (k : ByteArray) : Uni (delM k fs) := ((delM_sub k fs).map _).nodup h
theorem sure_del {fs : Fs} (h : SureOk fs) (k : ByteArray) : SureOk (delM k fs) := fun e he => h e ((delM_sub k fs).subset he)

/-! ### Unlink -/
def unlinkG (k : ByteArray) (st : DS) : DS × Int := if (getM k st.fs).isSome then ({ st with fs := delM k st.fs }, 0) else (st, 2)
def unlinkD (st : DS) (k : ByteArray) : DS × Int := doing st (nameOk k) (unlinkG k)

theorem del_inv {st : DS} (i : Inv st) (k : ByteArray) : Inv { st with fs := delM k st.fs } :=
  { toCounts := ⟨i.a0, i.a1, i.f0, i.f1⟩, r0 := i.r0, r1 := i.r1, full := by have := delM_total k st.fs; have := i.full; simp only; omega, uni := uni_del i.uni k, names := fun x hx => i.names x (((delM_sub k st.fs).map _).subset hx), sure := sure_del i.sure k }

theorem unlink_inv {st : DS} (i : Inv st) (k : ByteArray) : Inv (unlinkD st k).1 := by
  unfold unlinkD doing
  split
  · unfold unlinkG
    split
    · exact del_inv (chg_inv i _) k
    · exact chg_inv i _
  · exact chg_inv i _

/-- A disk that was laid open. -/
theorem DO.shut {d m : Nat} {E : List DE} {st : DS} (hE : er E = st.fs) (hw : Sat R (DO d m E st Hs) w) : Sat R (DiskAt d st :: Hs) w := Sat.disk.2 ⟨m, E, hE, hw⟩

theorem unlink1_spec {d m q bd bn : Nat} {st : DS} {a b : List DE} {k : ByteArray} {f : Fl} (i : Inv st) (ha : getM k a = none) (hE : er (a ++ (k, q, f) :: b) = st.fs) (hw : Sat R (DO d m (a ++ (k, q, f) :: b) st Hs) w)
    {Rest1 Rest2 : List HP} {T1 T2 : TypeId} [t1 : TakeP bd Hs (.cells [.pointer (some ⟨d, 0, none⟩)].toArray T1 (0, 0)) Rest1] [t2 : TakeP bn Hs (.cells [.string k].toArray T2 (0, 0)) Rest2] :
    Gets Tryz.prog 116 #[.pointer (some ⟨q, 0, none⟩), .pointer (some ⟨bd, 0, none⟩), .pointer (some ⟨bn, 0, none⟩)] w fun r w' => r = .tuple #[] ∧ (unlinkG k st).2 = 0 ∧ Sat R (DiskAt d (unlinkG k st).1 :: Hs) w' := by
  have hk : getM k st.fs = some f := by rw [← hE, er_app, er_cons, getM_app (by rw [er_get, ha]; rfl) (ba_rfl k)]
  have e : unlinkG k st = ({ st with fs := delM k st.fs }, 0) := if_pos (by rw [hk]; rfl)
  rw [e]
  have hw := DO.shut hE hw
  apply call116
  refine NilP.mk rfl ⟨some ⟨d, 0, none⟩, At.own (eqS hw) (by exact ⟨rfl, trivial⟩), NilP.mk rfl ⟨k, At.own (eqS hw) (by exact ⟨rfl, trivial⟩), ?_⟩⟩
  refine (gone_spec i k hw).use ?_
  rintro _ w ⟨rfl, hw⟩
  exact ⟨rfl, rfl, rfl, hw⟩

/-- What is not named any more. -/
theorem Sat.toTru : ∀ {As : List HP} {R : Cx} {w : World}, Sat R (As ++ Hs) w → Sat R (As ++ [VC.tru]) w
  | [], R, w, h => by
    have : ∀ {Hs : List HP} {R : Cx}, Sat R (VC.tru :: Hs) w → Sat R [VC.tru] w := fun {Hs} => by
      induction Hs with
      | nil => exact fun h => h
      | cons H Hs ih => exact fun h => ih h.swap.absorb
    exact this h.tru
  | A :: As, R, w, h => h.cons fun _ h => Sat.toTru (As := As) h

theorem unlink_spec {d : Nat} {st : DS} {k : ByteArray} (i : Inv st) (hw : Sat R (DiskAt d st :: Hs) w) :
    Gets Tryz.prog 88 #[.pointer (some ⟨d, 0, none⟩), .string k] w fun r w' => r = .int .i64 (unlinkD st k).2 ∧ Sat R (DiskAt d (unlinkD st k).1 :: Hs) w' := by
  apply call88
  refine new_rule hw fun bd w hw => new_rule hw fun bn w hw => ?_
  have hw : Sat R (DiskAt d st :: box bd (.pointer (some ⟨d, 0, none⟩)) 38 :: box bn (.string k) 9 :: Hs) w :=
    (hw.take (DiskAt d st)).cons fun _ h => h.swap
  have toS : ∀ {w}, Sat R (box bd (.pointer (some ⟨d, 0, none⟩)) 38 :: box bn (.string k) 9 :: Hs) w → Sat R (box bd (.pointer (some ⟨d, 0, none⟩)) 38 :: box bn (.string k) 9 :: VC.tru :: []) w := fun h =>
    Sat.toTru (As := [_, _]) h
  have hm : ∀ (R : Cx) (X : List HP) st m a q f b w, Inv st → getM k a = none → er (a ++ (k, q, f) :: b) = st.fs → Sat R (DO d m (a ++ (k, q, f) :: b) st (X ++ (box bd (.pointer (some ⟨d, 0, none⟩)) 38 :: box bn (.string k) 9 :: Hs))) w →
      CalW Tryz.prog cl (.func (.func 116) #[] #[.pointer (some ⟨bd, 0, none⟩), .pointer (some ⟨bn, 0, none⟩)]) [.pointer (some ⟨q, 0, none⟩)] w (fun e w' => e = .returned (.tuple #[]) ∧ (unlinkG k st).2 = 0 ∧ Sat R (DiskAt d (unlinkG k st).1 :: (X ++ (box bd (.pointer (some ⟨d, 0, none⟩)) 38 :: box bn (.string k) 9 :: Hs))) w') := by
    intro R X st m a q f b w i ha hE hw
    show Calls Tryz.prog _ _ w _
    refine (unlink1_spec i ha hE hw).use ?_
    rintro _ w ⟨rfl, h⟩; exact ⟨rfl, h⟩
  have hn : ∀ st, getM k st.fs = none → unlinkG k st = (st, 2) := by intro st h; unfold unlinkG; rw [h]; rfl
  refine drw_rule' (fun w => Sat R (box bd (.pointer (some ⟨d, 0, none⟩)) 38 :: box bn (.string k) 9 :: tru :: []) w) hw (fun w h => toS h.drop) fun w hw => ?_
  refine ⟨_, At.own selfS (by exact ⟨rfl, trivial⟩), _, At.own selfS (by exact ⟨rfl, trivial⟩), _, At.own selfS (by exact ⟨rfl, trivial⟩), _, At.own selfS (by exact ⟨rfl, trivial⟩), ?_, ?_⟩
  · refine (one_spec (unlinkG k) i rfl hw hm hn).use ?_
    rintro c w ⟨Hs', hw, back, k2⟩
    refine ⟨c, rfl, toS (back _ _ hw.drop), new_rule hw fun bt w hw => ?_⟩
    obtain ⟨hc, hwl⟩ := Sat.lend.1 hw
    refine ⟨toS (back _ _ hw.drop.drop), (k2 _ _ [k] w hwl (ro_one hc) (by simp)).use ?_⟩
    rw [all_one]
    rintro _ w ⟨rfl, hw⟩
    have hw := (Sat.lend.2 ⟨hc, hw⟩).drop
    exact ⟨_, rfl, toS (back _ _ hw.drop), rfl, hw.cons fun _ h => (back _ _ h).drop.drop⟩
  · refine new_rule hw fun bt w hw => ?_
    obtain ⟨hc, hwl⟩ := Sat.lend.1 hw
    refine ⟨toS hw.drop.drop, ?_⟩
    refine (one_spec (unlinkG k) i rfl hwl hm hn).use ?_
    rintro c w ⟨Hs', hw, back, k2⟩
    refine ⟨c, rfl, toS (back _ _ (Sat.lend.2 ⟨hc, hw⟩).drop.drop), (k2 _ _ [k] w hw (ro_one hc) (by simp)).use ?_⟩
    rw [all_one]
    rintro _ w ⟨rfl, hw⟩
    have hw := (Sat.lend.2 ⟨hc, hw⟩).drop
    exact ⟨_, rfl, toS (back _ _ hw.drop), rfl, hw.cons fun _ h => (back _ _ h).drop.drop⟩

end Go.Proofs.YtgfneeoponiibaaGreat
/- The disk: Rename. Condition: none. -/
namespace Go.Proofs.YtgfneeoponiibaaGreat
open Go Go.VC

variable {R : Cx} {Hs Rest : List HP} {w : World}

theorem delM_map {β γ : Type} (g : β → γ) (k : ByteArray) : ∀ l : List (ByteArray × β), (delM k l).map (fun e => (e.1, g e.2)) = delM k (l.map fun e => (e.1, g e.2))
  | [] => rfl
  | e :: l => by
    rw [delM, List.map_cons, delM]
    split
    · rfl
    · rw [List.map_cons, delM_map g k l]
theorem delM_none {β : Type} {k : ByteArray} : ∀ {l : List (ByteArray × β)}, getM k l = none → delM k l = l
  | [], _ => rfl
  | e :: l, h => by
    rw [getM] at h
    split at h
    · cases h
    · rename_i hne; rw [delM, if_neg hne, delM_none h]
theorem getM_del_ne {β : Type} {k k2 : ByteArray} (hne : k ≠ k2) : ∀ {l : List (ByteArray × β)}, getM k (delM k2 l) = getM k l
  | [] => rfl
  | e :: l => by
    rw [delM]
    split
    · rename_i h
      have := (MapKept.bytes_beq _ _).1 h
      rw [getM, ← this, if_neg (by rw [ba_ne hne]; simp)]
    · rw [getM, getM, getM_del_ne hne]
theorem er_del (k : ByteArray) (E : List DE) : er (delM k E) = delM k (er E) := delM_map (fun x : Nat × Fl => x.2) k E
theorem ptrs_del (k : ByteArray) (E : List DE) : ptrs (delM k E) = delM k (ptrs E) := delM_map (fun x : Nat × Fl => Value.pointer (some ⟨x.1, 0, none⟩)) k E

theorem gone_open {d m : Nat} {E : List DE} {st : DS} (i : Inv st) (k : ByteArray) (hE : er E = st.fs) (hw : Sat R (DO d m E st Hs) w) :
    Gets Tryz.prog 117 #[.pointer (some ⟨d, 0, none⟩), .string k] w fun r w' => r = .tuple #[] ∧ Sat R (DO d m (delM k E) { st with fs := delM k st.fs } Hs) w' := by
  have hnn := total_nn st.fs
  have r1 := i.r1; have hfull := i.full
  apply call117
  refine NilP.mk rfl ⟨some m, At.own (eqS hw) (by exact ⟨rfl, trivial⟩), _, _, fun w' hw' => DO.look (eqS hw _ hw') k true, ?_⟩
  refine Br.mk (fun hk => ?_) (fun hk => ?_)
  · obtain ⟨⟨q, f⟩, hf⟩ := Option.isSome_iff_exists.1 hk
    obtain ⟨a, b, rfl, ha⟩ := getM_split hf
    rw [hf]
    have ht : total st.fs = total (er a ++ er b) + f.b.length := by rw [← hE, er_app, er_cons, total_one]
    have hnn2 := total_nn (er a ++ er b)
    have hw : Sat R (FilesAt (a ++ (k, q, f) :: b) :: pts d (dCells st m) :: MapAt m (ptrs (a ++ (k, q, f) :: b)) :: Hs) w := (hw.cons fun _ h => h.swap).swap
    obtain ⟨s, hw⟩ := Sat.file.1 (Sat.split.1 hw)
    have hlen : s.len = f.b.length := by have := Own.len hw.swap; rwa [List.length_map] at this
    refine drw_rule hw fun w hw => ?_
    refine NilP.mk rfl ⟨total st.fs, At.own selfS (by exact ⟨rfl, trivial⟩), NilP.mk rfl ⟨s, by rw [add_off]; exact At.own selfS (by exact ⟨rfl, trivial⟩), NilP.mk rfl ?_⟩⟩
    rw [wrap64 (by omega) (by omega)]
    refine store_rule hw (by kernel_rfl) rfl (by simp [Value.cells]) fun w hw => NilP.mk rfl ⟨some m, At.own (eqS hw) (by exact ⟨rfl, trivial⟩), ?_⟩
    refine MapAt.del mapT (hw.take (MapAt m (ptrs (a ++ (k, q, f) :: b)))) k fun w hw => ⟨rfl, ?_⟩
    have ep : delM k (ptrs (a ++ (k, q, f) :: b)) = ptrs (a ++ b) := by
      rw [ptrs_app, show ptrs ((k, q, f) :: b) = (k, Value.pointer (some ⟨q, 0, none⟩)) :: ptrs b from rfl, delM_app (by rw [ptrs_get, ha]; rfl) (ba_rfl k), ← ptrs_app]
    have eE : delM k (a ++ (k, q, f) :: b) = a ++ b := delM_app ha (ba_rfl k)
    have ef : delM k st.fs = er (a ++ b) := by rw [← hE, ← er_del, eE]
    rw [ep] at hw
    rw [eE]
    unfold DO dCells
    simp only [ef, er_app]
    have e3 : total st.fs - (s.len : Int) = total (er a ++ er b) := by omega
    rw [e3] at hw
    exact hw.swap.cons fun _ h => h.cons fun _ h => h.drop.drop
  · simp only [Option.isSome_eq_false_iff, Option.isNone_iff_eq_none] at hk
    rw [delM_none hk, delM_none (by rw [← hE, er_get, hk]; rfl)]
    exact ⟨rfl, hw⟩

def renameG (k to : ByteArray) (st : DS) : DS × Int :=
  match getM k st.fs with
  | some f => if k = to then (st, 0) else ({ st with fs := delM k (delM to st.fs) ++ [(to, f)] }, 0)
  | none => (st, 2)
def renameD (st : DS) (k to : ByteArray) : DS × Int := doing st (nameOk k && nameOk to) (renameG k to)

theorem getM_del_self {β : Type} (k : ByteArray) : ∀ {l : List (ByteArray × β)}, (l.map (·.1)).Nodup → getM k (delM k l) = none
  | [], _ => rfl
  | e :: l, h => by
    rw [List.map_cons, List.nodup_cons] at h
    rw [delM]
    split
    · rename_i hk
      have e1 := (MapKept.bytes_beq _ _).1 hk
      exact getM_of_notin (by rw [e1]; exact h.1)
    · rename_i hk
      rw [getM, if_neg hk, getM_del_self k h.2]

theorem total_get {k : ByteArray} {f : Fl} : ∀ {fs : Fs}, getM k fs = some f → total fs = total (delM k fs) + f.b.length
  | fs, h => by
    obtain ⟨a, b, rfl, ha⟩ := getM_split h
    rw [delM_app ha (ba_rfl k), total_one]


theorem rename1_spec {d m q bd bn bt : Nat} {st : DS} {a b : List DE} {k to : ByteArray} {f : Fl} (i : Inv st) (ha : getM k a = none) (hE : er (a ++ (k, q, f) :: b) = st.fs) (hw : Sat R (DO d m (a ++ (k, q, f) :: b) st Hs) w)
    {Rest1 Rest2 Rest3 : List HP} {T1 T2 T3 : TypeId} [t1 : TakeP bd Hs (.cells [.pointer (some ⟨d, 0, none⟩)].toArray T1 (0, 0)) Rest1] [t2 : TakeP bn Hs (.cells [.string k].toArray T2 (0, 0)) Rest2] [t3 : TakeP bt Hs (.cells [.string to].toArray T3 (0, 0)) Rest3] :
    Gets Tryz.prog 119 #[.pointer (some ⟨q, 0, none⟩), .pointer (some ⟨bn, 0, none⟩), .pointer (some ⟨bt, 0, none⟩), .pointer (some ⟨bd, 0, none⟩)] w fun r w' => r = .tuple #[] ∧ (renameG k to st).2 = 0 ∧ Sat R (DiskAt d (renameG k to st).1 :: Hs) w' := by
  have hk0 : getM k (a ++ (k, q, f) :: b) = some (q, f) := getM_app ha (ba_rfl k)
  have hk : getM k st.fs = some f := by rw [← hE, er_get, hk0]; rfl
  apply call119
  refine NilP.mk rfl ⟨k, At.own (eqS hw) (by exact ⟨rfl, trivial⟩), NilP.mk rfl ⟨to, At.own (eqS hw) (by exact ⟨rfl, trivial⟩), ?_⟩⟩
  have hto : (k.toList == to.toList) = decide (k = to) := by
    rw [ByteArray.toList_eq, ByteArray.toList_eq]
    by_cases h : k = to
    · simp [h]
    · have : k.data ≠ to.data := fun h2 => h (by cases k; cases to; simp_all)
      simp [h, this]
  rw [hto]
  refine Br.mk (fun h => ?_) (fun h => ?_) <;> simp only [decide_eq_true_eq, decide_eq_false_iff_not] at h
  · have e : renameG k to st = (st, 0) := by unfold renameG; rw [hk]; exact if_pos h
    rw [e]
    exact ⟨rfl, rfl, DO.shut hE hw⟩
  have e : renameG k to st = ({ st with fs := delM k (delM to st.fs) ++ [(to, f)] }, 0) := by unfold renameG; rw [hk]; exact if_neg h
  rw [e]
  refine NilP.mk rfl ⟨_, At.own (eqS hw) (by exact ⟨rfl, trivial⟩), NilP.mk rfl ⟨_, At.own (eqS hw) (by exact ⟨rfl, trivial⟩), ?_⟩⟩
  refine (gone_open i to hE hw).use ?_
  rintro _ w ⟨rfl, hw⟩
  refine ⟨rfl, ?_⟩
  generalize hEe : delM to (a ++ (k, q, f) :: b) = E1 at hw
  have hk1 : getM k E1 = some (q, f) := by rw [← hEe, getM_del_ne h, hk0]
  have hE1 : er E1 = delM to st.fs := by rw [← hEe, er_del, hE]
  have hu1 : (E1.map (·.1)).Nodup := by
    rw [← hEe]
    have hu : ((a ++ (k, q, f) :: b).map (·.1)).Nodup := by
      have : (a ++ (k, q, f) :: b).map (·.1) = st.fs.map (·.1) := by rw [← hE]; simp [er, Function.comp_def]
      rw [this]; exact i.uni
    exact ((delM_sub to _).map _).nodup hu
  have htonone : getM to E1 = none := by
    rw [← hEe]
    refine getM_del_self to ?_
    have : (a ++ (k, q, f) :: b).map (·.1) = st.fs.map (·.1) := by rw [← hE]; simp [er, Function.comp_def]
    rw [this]; exact i.uni
  obtain ⟨a1, b1, rfl, ha1⟩ := getM_split hk1
  have hdel : delM k (a1 ++ (k, q, f) :: b1) = a1 ++ b1 := delM_app ha1 (ba_rfl k)
  refine drw_rule' (fun w => Sat R (pts d (dCells { st with fs := delM to st.fs } m) :: FilesAt (a1 ++ (k, q, f) :: b1) :: Hs) w) hw (fun w h => h.swap.drop) fun w hw => ?_
  refine NilP.mk rfl ⟨some ⟨d, 0, none⟩, At.own selfS (by exact ⟨rfl, trivial⟩), NilP.mk rfl ⟨some m, At.own selfS (by exact ⟨rfl, trivial⟩), NilP.mk rfl ⟨k, At.own selfS (by exact ⟨rfl, trivial⟩), ?_⟩⟩⟩
  have ep : delM k (ptrs (a1 ++ (k, q, f) :: b1)) = ptrs (a1 ++ b1) := by rw [← ptrs_del, hdel]
  refine MapAt.del mapT (hw.take (MapAt m (ptrs (a1 ++ (k, q, f) :: b1)))) k fun w hw => ?_
  rw [ep] at hw
  refine ⟨hw.drop, drw_rule hw fun w hw => ?_⟩
  refine NilP.mk rfl ⟨some ⟨d, 0, none⟩, At.own selfS (by exact ⟨rfl, trivial⟩), NilP.mk rfl ⟨some m, At.own selfS (by exact ⟨rfl, trivial⟩), NilP.mk rfl ⟨to, At.own selfS (by exact ⟨rfl, trivial⟩), ?_⟩⟩⟩
  refine MapAt.put mapT hw to (.pointer (some ⟨q, 0, none⟩)) fun w hw => ⟨rfl, rfl, ?_⟩
  have hno : getM to (a1 ++ b1) = none := by rw [← hdel, getM_del_ne (fun h2 => h h2.symm)]; exact htonone
  have ep2 : putM to (.pointer (some ⟨q, 0, none⟩)) (ptrs (a1 ++ b1)) = ptrs (a1 ++ b1 ++ [(to, q, f)]) := by
    unfold putM; rw [ptrs_get, hno]; simp [ptrs]
  rw [ep2] at hw
  have ef : delM k (delM to st.fs) ++ [(to, f)] = er (a1 ++ b1 ++ [(to, q, f)]) := by
    rw [er_app, ← hdel, er_del, hE1]; rfl
  have ht : total (delM k (delM to st.fs) ++ [(to, f)]) = total (delM to st.fs) := by
    have hg : getM k (delM to st.fs) = some f := by rw [← hE1, er_get, hk1]; rfl
    rw [total_get hg, total_app]; simp [total_cons, total_nil]
  refine Sat.disk.2 ⟨m, a1 ++ b1 ++ [(to, q, f)], ef.symm, ?_⟩
  unfold dCells
  simp only [ht]
  refine hw.swap.cons fun _ h => h.cons fun _ h => ?_
  have h2 := Sat.split.1 h
  have h3 : Sat _ (FilesAt ((a1 ++ b1) ++ (to, q, f) :: []) :: Hs) w := Sat.split.2 (by simpa using h2)
  simpa using h3

theorem renameG_inv {st : DS} {k to : ByteArray} (i : Inv st) (hto : nameOk to = true) : Inv (renameG k to st).1 := by
  unfold renameG
  split
  · rename_i f hf
    split
    · exact i
    · rename_i hne
      have hg : getM k (delM to st.fs) = some f := by rw [getM_del_ne hne]; exact hf
      have hno : getM to (delM k (delM to st.fs)) = none := by rw [getM_del_ne (fun h2 => hne h2.symm)]; exact getM_del_self to i.uni
      have hfm : f.sure ≤ f.b.length := by
        obtain ⟨a, b, e, _⟩ := getM_split hf
        exact i.sure (k, f) (by rw [e]; simp)
      refine { toCounts := ⟨i.a0, i.a1, i.f0, i.f1⟩, r0 := i.r0, r1 := i.r1, full := ?_, uni := uni_app (uni_del (uni_del i.uni to) k) hno, names := ?_, sure := sure_app (sure_del (sure_del i.sure to) k) hfm }
      all_goals (have := total_get hg)
      all_goals (have h2 := delM_total to st.fs)
      all_goals (have := i.full)
      · simp only [total_app, total_cons, total_nil]
        omega
      · intro x hx
        simp only [List.map_append, List.mem_append] at hx
        rcases hx with hx | hx
        · exact i.names x ((((delM_sub k _).trans (delM_sub to st.fs)).map _).subset hx)
        · simp at hx; subst hx; exact hto
  · exact i

theorem rename_inv {st : DS} (i : Inv st) (k to : ByteArray) : Inv (renameD st k to).1 := by
  unfold renameD doing
  split
  · rename_i h; have h2 := chg_ok h; simp only [Bool.and_eq_true] at h2; exact renameG_inv (chg_inv i _) h2.2
  · exact chg_inv i _

theorem rename_spec {d : Nat} {st : DS} {k to : ByteArray} (i : Inv st) (hw : Sat R (DiskAt d st :: Hs) w) :
    Gets Tryz.prog 90 #[.pointer (some ⟨d, 0, none⟩), .string k, .string to] w fun r w' => r = .int .i64 (renameD st k to).2 ∧ Sat R (DiskAt d (renameD st k to).1 :: Hs) w' := by
  apply call90
  refine new_rule hw fun bd w hw => new_rule hw fun bn w hw => new_rule hw fun bto w hw => ?_
  have hw : Sat R (DiskAt d st :: box bd (.pointer (some ⟨d, 0, none⟩)) 38 :: box bn (.string k) 9 :: box bto (.string to) 9 :: Hs) w :=
    (hw.take (DiskAt d st)).cons fun _ h => (h.take (box bd (.pointer (some ⟨d, 0, none⟩)) 38)).cons fun _ h => h.swap
  have toS : ∀ {w}, Sat R (box bd (.pointer (some ⟨d, 0, none⟩)) 38 :: box bn (.string k) 9 :: box bto (.string to) 9 :: Hs) w → Sat R (box bd (.pointer (some ⟨d, 0, none⟩)) 38 :: box bn (.string k) 9 :: box bto (.string to) 9 :: VC.tru :: []) w := fun h =>
    Sat.toTru (As := [_, _, _]) h
  have hm : ∀ (R : Cx) (X : List HP) st m a q f b w, Inv st → getM k a = none → er (a ++ (k, q, f) :: b) = st.fs → Sat R (DO d m (a ++ (k, q, f) :: b) st (X ++ (box bd (.pointer (some ⟨d, 0, none⟩)) 38 :: box bn (.string k) 9 :: box bto (.string to) 9 :: Hs))) w →
      CalW Tryz.prog cl (.func (.func 119) #[] #[.pointer (some ⟨bn, 0, none⟩), .pointer (some ⟨bto, 0, none⟩), .pointer (some ⟨bd, 0, none⟩)]) [.pointer (some ⟨q, 0, none⟩)] w (fun e w' => e = .returned (.tuple #[]) ∧ (renameG k to st).2 = 0 ∧ Sat R (DiskAt d (renameG k to st).1 :: (X ++ (box bd (.pointer (some ⟨d, 0, none⟩)) 38 :: box bn (.string k) 9 :: box bto (.string to) 9 :: Hs))) w') := by
    intro R X st m a q f b w i ha hE hw
    show Calls Tryz.prog _ _ w _
    refine (rename1_spec i ha hE hw).use ?_
    rintro _ w ⟨rfl, h⟩; exact ⟨rfl, h⟩
  have hn : ∀ st, getM k st.fs = none → renameG k to st = (st, 2) := by intro st h; unfold renameG; rw [h]
  have all2 : [k, to].all nameOk = (nameOk k && nameOk to) := by simp
  refine drw_rule' (fun w => Sat R (box bd (.pointer (some ⟨d, 0, none⟩)) 38 :: box bn (.string k) 9 :: box bto (.string to) 9 :: tru :: []) w) hw (fun w h => toS h.drop) fun w hw => ?_
  refine ⟨_, At.own selfS (by exact ⟨rfl, trivial⟩), _, At.own selfS (by exact ⟨rfl, trivial⟩), _, At.own selfS (by exact ⟨rfl, trivial⟩), _, At.own selfS (by exact ⟨rfl, trivial⟩), _, At.own selfS (by exact ⟨rfl, trivial⟩), ?_, ?_⟩
  · refine (one_spec (renameG k to) i rfl hw hm hn).use ?_
    rintro c w ⟨Hs', hw, back, k2⟩
    refine ⟨c, rfl, toS (back _ _ hw.drop), new_rule hw fun bt w hw => ?_⟩
    obtain ⟨hc, hwl⟩ := Sat.lend.1 hw
    refine ⟨toS (back _ _ hw.drop.drop), (k2 _ _ [k, to] w hwl (ro_two hc) (by simp)).use ?_⟩
    rw [all2]
    rintro _ w ⟨rfl, hw⟩
    have hw := (Sat.lend.2 ⟨hc, hw⟩).drop
    exact ⟨_, rfl, toS (back _ _ hw.drop), rfl, hw.cons fun _ h => (back _ _ h).drop.drop.drop⟩
  · refine new_rule hw fun bt w hw => ?_
    obtain ⟨hc, hwl⟩ := Sat.lend.1 hw
    refine ⟨toS hw.drop.drop, ?_⟩
    refine (one_spec (renameG k to) i rfl hwl hm hn).use ?_
    rintro c w ⟨Hs', hw, back, k2⟩
    refine ⟨c, rfl, toS (back _ _ (Sat.lend.2 ⟨hc, hw⟩).drop.drop), (k2 _ _ [k, to] w hw (ro_two hc) (by simp)).use ?_⟩
    rw [all2]
    rintro _ w ⟨rfl, hw⟩
    have hw := (Sat.lend.2 ⟨hc, hw⟩).drop
    exact ⟨_, rfl, toS (back _ _ hw.drop), rfl, hw.cons fun _ h => (back _ _ h).drop.drop.drop⟩

end Go.Proofs.YtgfneeoponiibaaGreat
/-
  DERIVED: THE SHELF's CONTRACTS AT THIS DUMP, IN PLAIN WORDS (tools/lay-plain.mjs out of 'TryIter.lean', which tools/lay-shelf.mjs wrote): THE SAME DECLARATIONS UNDER THE SAME NAMES: 'import', 'namespace', 'open', 'def', 'theorem' AND NOTHING ELSE: no command of the shelf's: FOR A HAND-IN. Each laying: the table of numbers ('.._ren') and one theorem, a field a fact of the dump's own or the kernel's comparison; each contract: ONE APPLICATION.
-/
namespace Go.Proofs
open Go.Shelf
def Tryz.keys94_ren : Go.Shelf.Ren := ⟨fun | 7 => 94 | 10 => 123 | n => n, fun | 23 => 84 | 26 => 9 | 3 => 95 | 28 => 140 | 0 => 0 | 27 => 139 | 33 => 144 | 4 => 4 | n => n, fun | n => n⟩
theorem Tryz.keys94 : Go.Proofs.SlLaysZ.n7 Tryz.prog Tryz.keys94_ren := {
  mixed := by kernel_rfl
  f7 := ⟨Tryz.f94.name, by decide, Tryz.func94.trans (congrArg some (by kernel_rfl))⟩
  f10 := ⟨Tryz.f123.name, by decide, Tryz.func123.trans (congrArg some (by kernel_rfl))⟩
  t0 := Tryz.underlying0
  a0 := Tryz.isAgg0
  z0 := Tryz.sizeOf0
  v0 := Tryz.zeroValue0
  t4 := Tryz.underlying4
  a4 := Tryz.isAgg4
  z4 := Tryz.sizeOf4
  v4 := Tryz.zeroValue4
  t23 := Tryz.underlying84
  a23 := Tryz.isAgg84
  z23 := Tryz.sizeOf84
  v23 := Tryz.zeroValue84
  t26 := Tryz.underlying9
  a26 := Tryz.isAgg9
  z26 := Tryz.sizeOf9
  v26 := Tryz.zeroValue9
  t27 := Tryz.underlying139
  a27 := Tryz.isAgg139
  z27 := Tryz.sizeOf139
  v27 := Tryz.zeroValue139
  t28 := Tryz.underlying140
  a28 := Tryz.isAgg140
  z28 := Tryz.sizeOf140
  v28 := Tryz.zeroValue140
  t33 := Tryz.underlying144
  a33 := Tryz.isAgg144
  z33 := Tryz.sizeOf144
  v33 := Tryz.zeroValue144 }
def Tryz.sorted93_ren : Go.Shelf.Ren := ⟨fun | 6 => 93 | 8 => 121 | 9 => 122 | 11 => 132 | 13 => 134 | 12 => 133 | 23 => 148 | 24 => 76 | 14 => 139 | 15 => 140 | 16 => 141 | 17 => 142 | 18 => 143 | 19 => 144 | 20 => 145 | 21 => 146 | 22 => 147 | 25 => 150 | 26 => 151 | 27 => 152 | 28 => 153 | 29 => 154 | 30 => 155 | 31 => 156 | n => n, fun | 26 => 9 | 28 => 140 | 24 => 93 | 0 => 0 | 3 => 3 | 37 => 147 | 48 => 151 | 50 => 70 | 4 => 4 | 40 => 176 | 39 => 175 | 45 => 181 | 5 => 5 | 9 => 9 | 51 => 186 | 55 => 100 | 57 => 191 | 58 => 192 | 33 => 144 | n => n, fun | n => n⟩
theorem Tryz.sorted93 : Go.Proofs.SlLaysZ.n6 Tryz.prog Tryz.sorted93_ren := {
  mixed := by kernel_rfl
  f6 := ⟨Tryz.f93.name, by decide, Tryz.func93.trans (congrArg some (by kernel_rfl))⟩
  f8 := ⟨Tryz.f121.name, by decide, Tryz.func121.trans (congrArg some (by kernel_rfl))⟩
  f11 := ⟨Tryz.f132.name, by decide, Tryz.func132.trans (congrArg some (by kernel_rfl))⟩
  t0 := Tryz.underlying0
  a0 := Tryz.isAgg0
  z0 := Tryz.sizeOf0
  v0 := Tryz.zeroValue0
  t24 := Tryz.underlying93
  a24 := Tryz.isAgg93
  z24 := Tryz.sizeOf93
  v24 := Tryz.zeroValue93
  t26 := Tryz.underlying9
  a26 := Tryz.isAgg9
  z26 := Tryz.sizeOf9
  v26 := Tryz.zeroValue9
  t28 := Tryz.underlying140
  a28 := Tryz.isAgg140
  z28 := Tryz.sizeOf140
  v28 := Tryz.zeroValue140
  i26 := by kernel_rfl }
def Tryz.sort122_ren : Go.Shelf.Ren := ⟨fun | 6 => 122 | 8 => 134 | 9 => 133 | 19 => 148 | 20 => 76 | 21 => 139 | 22 => 140 | 23 => 141 | 24 => 142 | 25 => 143 | 26 => 144 | 27 => 145 | 28 => 146 | 29 => 147 | 36 => 150 | 31 => 151 | 32 => 152 | 37 => 153 | 38 => 154 | 39 => 155 | 41 => 156 | n => n, fun | 27 => 93 | 29 => 9 | 3 => 3 | 32 => 147 | 26 => 93 | 0 => 0 | 44 => 151 | 46 => 70 | 4 => 4 | 36 => 176 | 35 => 175 | 41 => 181 | 5 => 5 | 9 => 9 | 53 => 186 | 57 => 100 | 63 => 191 | 64 => 192 | n => n, fun | n => n⟩
theorem Tryz.sort122 : Go.Proofs.SlLaysM.n6 Tryz.prog Tryz.sort122_ren := {
  mixed := by kernel_rfl
  f6 := ⟨Tryz.f122.name, by decide, Tryz.func122.trans (congrArg some (by kernel_rfl))⟩
  f8 := Tryz.func134.trans (congrArg some (by kernel_rfl))
  f9 := ⟨Tryz.f133.name, by decide, Tryz.func133.trans (congrArg some (by kernel_rfl))⟩
  f19 := Tryz.func148.trans (congrArg some (by kernel_rfl))
  f20 := Tryz.func76.trans (congrArg some (by kernel_rfl))
  f21 := ⟨Tryz.f139.name, by decide, Tryz.func139.trans (congrArg some (by kernel_rfl))⟩
  f22 := ⟨Tryz.f140.name, by decide, Tryz.func140.trans (congrArg some (by kernel_rfl))⟩
  f23 := ⟨Tryz.f141.name, by decide, Tryz.func141.trans (congrArg some (by kernel_rfl))⟩
  f24 := ⟨Tryz.f142.name, by decide, Tryz.func142.trans (congrArg some (by kernel_rfl))⟩
  f25 := ⟨Tryz.f143.name, by decide, Tryz.func143.trans (congrArg some (by kernel_rfl))⟩
  f26 := ⟨Tryz.f144.name, by decide, Tryz.func144.trans (congrArg some (by kernel_rfl))⟩
  f27 := ⟨Tryz.f145.name, by decide, Tryz.func145.trans (congrArg some (by kernel_rfl))⟩
  f28 := ⟨Tryz.f146.name, by decide, Tryz.func146.trans (congrArg some (by kernel_rfl))⟩
  f29 := ⟨Tryz.f147.name, by decide, Tryz.func147.trans (congrArg some (by kernel_rfl))⟩
  f31 := Tryz.func151.trans (congrArg some (by kernel_rfl))
  f32 := Tryz.func152.trans (congrArg some (by kernel_rfl))
  f36 := ⟨Tryz.f150.name, by decide, Tryz.func150.trans (congrArg some (by kernel_rfl))⟩
  f37 := ⟨Tryz.f153.name, by decide, Tryz.func153.trans (congrArg some (by kernel_rfl))⟩
  f38 := ⟨Tryz.f154.name, by decide, Tryz.func154.trans (congrArg some (by kernel_rfl))⟩
  f39 := ⟨Tryz.f155.name, by decide, Tryz.func155.trans (congrArg some (by kernel_rfl))⟩
  f41 := ⟨Tryz.f156.name, by decide, Tryz.func156.trans (congrArg some (by kernel_rfl))⟩
  t0 := Tryz.underlying0
  a0 := Tryz.isAgg0
  z0 := Tryz.sizeOf0
  v0 := Tryz.zeroValue0
  t3 := Tryz.underlying3
  a3 := Tryz.isAgg3
  z3 := Tryz.sizeOf3
  v3 := Tryz.zeroValue3
  t4 := Tryz.underlying4
  a4 := Tryz.isAgg4
  z4 := Tryz.sizeOf4
  v4 := Tryz.zeroValue4
  t5 := Tryz.underlying5
  a5 := Tryz.isAgg5
  z5 := Tryz.sizeOf5
  v5 := Tryz.zeroValue5
  t9 := Tryz.underlying9
  a9 := Tryz.isAgg9
  z9 := Tryz.sizeOf9
  v9 := Tryz.zeroValue9
  t26 := Tryz.underlying93
  a26 := Tryz.isAgg93
  z26 := Tryz.sizeOf93
  v26 := Tryz.zeroValue93
  t27 := Tryz.underlying93
  a27 := Tryz.isAgg93
  z27 := Tryz.sizeOf93
  v27 := Tryz.zeroValue93
  t29 := Tryz.underlying9
  a29 := Tryz.isAgg9
  z29 := Tryz.sizeOf9
  v29 := Tryz.zeroValue9
  t32 := Tryz.underlying147
  a32 := Tryz.isAgg147
  z32 := Tryz.sizeOf147
  v32 := Tryz.zeroValue147
  t35 := Tryz.underlying175
  a35 := Tryz.isAgg175
  z35 := Tryz.sizeOf175
  v35 := Tryz.zeroValue175
  t36 := Tryz.underlying176
  a36 := Tryz.isAgg176
  z36 := Tryz.sizeOf176
  v36 := Tryz.zeroValue176
  t41 := Tryz.underlying181
  a41 := Tryz.isAgg181
  z41 := Tryz.sizeOf181
  v41 := Tryz.zeroValue181
  t44 := Tryz.underlying151
  a44 := Tryz.isAgg151
  z44 := Tryz.sizeOf151
  v44 := Tryz.zeroValue151
  t46 := Tryz.underlying70
  a46 := Tryz.isAgg70
  z46 := Tryz.sizeOf70
  v46 := Tryz.zeroValue70
  t53 := Tryz.underlying186
  a53 := Tryz.isAgg186
  z53 := Tryz.sizeOf186
  v53 := Tryz.zeroValue186
  t57 := Tryz.underlying100
  a57 := Tryz.isAgg100
  z57 := Tryz.sizeOf100
  v57 := Tryz.zeroValue100
  t63 := Tryz.underlying191
  a63 := Tryz.isAgg191
  z63 := Tryz.sizeOf191
  v63 := Tryz.zeroValue191
  t64 := Tryz.underlying192
  a64 := Tryz.isAgg192
  z64 := Tryz.sizeOf192
  v64 := Tryz.zeroValue192 }
open Go.RowKit Go.Maps Go.Sort Go.Shelf in
/-- slices.Sort's two contracts at this dump, at the fence that asks nothing. -/
theorem Tryz.sorts93 (m : Nat) : AnyZ.SortsIn Tryz.prog Tryz.sorted93_ren Fence.wide m :=
  ⟨fun blk off cap ss W hH hblk hsz => callsIn_wide.2 (AnyM.slices_Sort_string Tryz.sort122 blk off cap ss W hH hblk hsz),
   fun p cap W => callsIn_wide.2 (AnyM.slices_Sort_string_none Tryz.sort122 p cap W)⟩
open Go.RowKit Go.Maps Go.Sort Go.Shelf in
/-- **maps.Keys[map[string]*jetway/disk.file,string,*jetway/disk.file], at whatever map, the nil one too:** a function value over ONE NEW BLOCK, which holds the map. -/
theorem Tryz.maps_Keys_94 (mb : Option Nat) (W : World) : CallsIn Fence.wide 5 Tryz.prog 94 #[.map mb] W fun e w' => e = .returned (.func (.func 123) #[] #[.pointer (some ⟨W.heap.size, 0, none⟩)]) ∧ w' = W.alloc (.cells #[.map mb] 84) :=
  AnyZ.keys_in Tryz.keys94 Fence.wide 5 trivial rfl mb W
open Go.RowKit Go.Maps Go.Sort Go.Shelf in
/-- **slices.Sorted[string] AT WHAT maps.Keys[map[string]*jetway/disk.file,string,*jetway/disk.file] HANDED BACK FOR A MAP THAT IS NOT nil** ('w': the world AHEAD of maps.Keys' call): A NEW SLICE THAT HOLDS THE MAP's KEYS, SORTED; nil just where it has none; nothing that lay before has turned. -/
theorem Tryz.slices_Sorted_keys_93_94 {H : Type} (b nn : Nat) (D0 : DataW H) (R : Value → Option (DataW H × List MemPlace)) (w : World) (hown : w.ownsMap Tryz.prog 9 R b nn D0) (hmax : Maps.size D0 ≤ maxLen) (hbytes : Maps.size D0 * 16 ≤ 140737488355328) :
    CallsIn Fence.wide 5 Tryz.prog 93 #[.func (.func 123) #[] #[.pointer (some ⟨w.heap.size, 0, none⟩)]] (w.alloc (.cells #[.map (some b)] 84)) fun e w' => ∃ (v : Value) (ss : List (List UInt8)), e = .returned v ∧ ss.Perm (strKeys D0) ∧
      w'.ownsRow (w.alloc (.cells #[.map (some b)] 84)).heap.size 9 1 v ss.length ((ss.mergeSort (fun x y => decide (x ≤ y))).map encStr) ∧ (v = .slice none 0 0 ↔ ss = []) ∧ Below (w.alloc (.cells #[.map (some b)] 84)).heap.size (w.alloc (.cells #[.map (some b)] 84)) w' := by
  have hbl := hown.lt
  have hseq : SeqGives Fence.wide 2 Tryz.prog 123 #[.pointer (some ⟨w.heap.size, 0, none⟩)] encStr (fun ss => ss.Perm (strKeys D0)) (Maps.size D0) (w.alloc (.cells #[.map (some b)] 84)) :=
    AnyZ.keys_gives (ρ := Tryz.keys94_ren) { Tryz.keys94 with } Fence.wide _ trivial rfl (by omega) w.heap.size b nn D0 _ (by simp) (by simp) (by
      obtain ⟨es, clock, hb, Ft, hs, hD⟩ := hown
      exact ⟨es, clock, (Below.heap_alloc _ _ b hbl).trans hb, Ft, hs, hD⟩)
  exact AnyZ.sorted_in Tryz.sorted93 Fence.wide 5 trivial trivial trivial trivial rfl (by omega) (Tryz.sorts93 _) (enters_of Tryz.func122 (by kernel_rfl) rfl) 123 #[.pointer (some ⟨w.heap.size, 0, none⟩)] trivial (enters_of Tryz.func123 (by kernel_rfl) rfl) _ _ hmax hbytes _ hseq
open Go.RowKit Go.Maps Go.Sort Go.Shelf in
/-- **.. AND FOR THE nil MAP: nil.** -/
theorem Tryz.slices_Sorted_keys_nil_93_94 (w : World) :
    CallsIn Fence.wide 5 Tryz.prog 93 #[.func (.func 123) #[] #[.pointer (some ⟨w.heap.size, 0, none⟩)]] (w.alloc (.cells #[.map none] 84)) fun e w' => ∃ (v : Value) (ss : List (List UInt8)), e = .returned v ∧ ss = [] ∧
      w'.ownsRow (w.alloc (.cells #[.map none] 84)).heap.size 9 1 v ss.length ((ss.mergeSort (fun x y => decide (x ≤ y))).map encStr) ∧ (v = .slice none 0 0 ↔ ss = []) ∧ Below (w.alloc (.cells #[.map none] 84)).heap.size (w.alloc (.cells #[.map none] 84)) w' := by
  have hseq : SeqGives Fence.wide 2 Tryz.prog 123 #[.pointer (some ⟨w.heap.size, 0, none⟩)] encStr (fun ss : List (List UInt8) => ss = []) 0 (w.alloc (.cells #[.map none] 84)) :=
    AnyZ.keys_gives_nil (ρ := Tryz.keys94_ren) { Tryz.keys94 with } Fence.wide _ trivial rfl w.heap.size _ (by simp) (by simp)
  exact AnyZ.sorted_in Tryz.sorted93 Fence.wide 5 trivial trivial trivial trivial rfl (by omega) (Tryz.sorts93 _) (enters_of Tryz.func122 (by kernel_rfl) rfl) 123 #[.pointer (some ⟨w.heap.size, 0, none⟩)] trivial (enters_of Tryz.func123 (by kernel_rfl) rfl) _ 0 (Nat.zero_le _) (by omega) _ hseq
end Go.Proofs
/- The disk: Names. Condition: a bound on how many files there are. -/
namespace Go.Proofs.YtgfneeoponiibaaGreat
open Go Go.VC

variable {R : Cx} {Hs Rest : List HP} {w : World}

/-- The names, rising. -/
def namesOf (fs : Fs) : List ByteArray := ((fs.map fun e => e.1.data.toList).mergeSort (fun x y => decide (x ≤ y))).map fun l => ⟨l.toArray⟩

theorem names_mapT {m c : Nat} {l : List (En ByteArray)} {E : List DE} (hs : strip l = ptrs E) (hst : StampsOk l c) (hu : (E.map (·.1)).Nodup) (hn : ∀ k ∈ E.map (·.1), k.size ≤ 64) (hlen : E.length ≤ 1000000)
    (hm : w.heap[m]? = some (.map (l.map mkE).toArray c)) :
    ∃ D0 : DataW Unit, w.ownsMap Tryz.prog 9 (fun _ => some (.nil, [])) m 1000000 D0 ∧ Maps.size D0 ≤ 1000000 ∧ ∀ ss : List (List UInt8), ss.Perm (strKeys D0) → ss.Perm (E.map fun e => e.1.data.toList) := by
  have hkeys : l.map (·.1) = E.map (·.1) := by
    have h1 : (strip l).map (·.1) = l.map (·.1) := by simp [strip, Function.comp_def]
    have h2 : (ptrs E).map (·.1) = E.map (·.1) := by simp [ptrs, Function.comp_def]
    rw [← h1, hs, h2]
  have hlen2 : l.length = E.length := by have := congrArg List.length hkeys; simpa using this
  have hkey : ∀ e ∈ l, keyOf Tryz.prog 9 (mkE e).key = some (.string e.1.data.toList) := fun e he => by
    have hm : e.1 ∈ E.map (·.1) := by rw [← hkeys]; exact List.mem_map_of_mem he
    have hsz := hn _ hm
    simp only [keyOf, Tryz.underlying9, mkE, mapKey, KeyK.enc]
    rw [if_pos (by unfold maxLen; omega)]
  have hrd : ∀ e ∈ l, WideElems.rd Tryz.prog 9 (fun _ => some ((.nil : DataW Unit), [])) (mkE e) = some (.string e.1.data.toList, .nil) := fun e he => by
    unfold WideElems.rd
    rw [hkey e he]; rfl
  have hrg : ((l.map mkE).map (WideElems.rg Tryz.prog 9 (fun _ => some ((.nil : DataW Unit), [])))) = l.map fun e => (.string e.1.data.toList, .nil) := by
    rw [List.map_map]
    apply List.map_congr_left
    intro e he
    simp only [Function.comp, WideElems.rg, hrd e he, Option.getD_some]
  refine ⟨_, ⟨(l.map mkE).toArray, c, hm, ⟨by simp [maxLen]; omega, ?_, ?_⟩, by simp; omega, rfl⟩, ?_, ?_⟩
  · refine ⟨fun x hx => ?_, ?_, ?_⟩
    · simp only [List.mem_map] at hx
      obtain ⟨e, he, rfl⟩ := hx
      exact hst.1 e he
    · have := hst.2; simpa [mkE, Function.comp_def] using this
    · have h2 : (l.map (·.1)).Nodup := by rw [hkeys]; exact hu
      have e1 : ((l.map mkE).toArray.toList.map (·.key)) = (l.map (·.1)).map Value.string := by simp [mkE, Function.comp_def, KeyK.enc]
      rw [e1]
      exact List.Pairwise.map _ (fun a b hab h => hab (by injection h)) h2
  · intro x hx
    simp only [List.mem_map] at hx
    obtain ⟨e, he, rfl⟩ := hx
    exact ⟨_, hrd e he⟩
  · simp only [Maps.size, hrg]
    rw [(WideShapes.sorted_perm _).length_eq]; simp; omega
  · intro ss hss
    refine hss.trans ?_
    simp only [strKeys, hrg]
    refine ((WideShapes.sorted_perm _).map _).trans ?_
    have : (l.map fun e => ((Lit.string e.1.data.toList, DataW.nil) : Lit × DataW Unit)).map (fun p => Go.strOf p.1) = E.map fun e => e.1.data.toList := by
      rw [List.map_map]
      show l.map (fun e => e.1.data.toList) = _
      have := congrArg (List.map fun k : ByteArray => k.data.toList) hkeys
      simpa [Function.comp_def] using this
    rw [this]

theorem nameOk_size {k : ByteArray} (h : nameOk k = true) : k.size ≤ 64 := by
  unfold nameOk at h; simp at h; exact h.1.2

theorem er_keys (E : List DE) : (er E).map (·.1) = E.map (·.1) := by simp [er, Function.comp_def]

theorem names_spec {d : Nat} {st : DS} (i : Inv st) (hc : st.fs.length ≤ 1000000) (hw : Sat R (DiskAt d st :: Hs) w) :
    Gets Tryz.prog 60 #[.pointer (some ⟨d, 0, none⟩)] w fun r w' => ∃ s : Sl, r = .slice s.a s.len s.cap ∧ Sat R (Own s 9 ((namesOf st.fs).map Value.string) :: DiskAt d st :: Hs) w' := by
  obtain ⟨m, E, hE, hw⟩ := Sat.disk.1 hw
  apply call60
  refine NilP.mk rfl ⟨some m, At.own (eqS hw) (by exact ⟨rfl, trivial⟩), ?_⟩
  have hw2 := hw.take (MapAt m (ptrs E))
  obtain ⟨l, c, hs, hst, hp⟩ := MapAt.iff.1 hw2
  have hu : (E.map (·.1)).Nodup := by rw [← er_keys, hE]; exact i.uni
  have hlen : E.length ≤ 1000000 := by have := congrArg List.length hE; simp [er] at this; omega
  obtain ⟨D0, hown, hsz, hperm⟩ := names_mapT hs hst hu (fun k hk => nameOk_size (i.names k (by rw [← hE, er_keys]; exact hk))) hlen hp.at
  refine (callsIn_wide.1 (Tryz.maps_Keys_94 (some m) w)).mono ?_
  rintro _ _ ⟨rfl, rfl⟩
  refine ⟨_, rfl, ?_⟩
  refine (callsIn_wide.1 (Tryz.slices_Sorted_keys_93_94 m _ D0 _ w hown (by unfold maxLen; omega) (by omega))).mono ?_
  rintro _ w' ⟨v, ss, rfl, hS, hrow, hnil, hb⟩
  have hw1 : Sat R (DO d m E st Hs) (w.alloc (.cells #[.map (some m)] 84)) := (Sat.alloc _ hw).drop
  obtain ⟨s, rfl, h3⟩ := Sat.ownsRow hw1 hb hrow
  refine ⟨s, rfl, s, rfl, ?_⟩
  have e : ((ss.mergeSort (fun x y => decide (x ≤ y))).map Proofs.encStr) = (namesOf st.fs).map Value.string := by
    unfold namesOf
    have hp2 := hperm ss hS
    have e2 : (E.map fun e => e.1.data.toList) = st.fs.map fun e => e.1.data.toList := by rw [← hE]; simp [er, Function.comp_def]
    rw [e2] at hp2
    rw [mergeSort_of_perm hp2, List.map_map]
    rfl
  rw [e] at h3
  exact h3.cons fun _ h => DO.shut hE h

end Go.Proofs.YtgfneeoponiibaaGreat
/- The disk: Clone, Read, Crash. Condition: bounds on lengths. -/
namespace Go.Proofs.YtgfneeoponiibaaGreat
open Go Go.VC

variable {R : Cx} {Hs Rest : List HP} {w : World}

/-- What Read tells. -/
def readD (st : DS) (k : ByteArray) : List Int × Int :=
  if st.off then ([], 5) else if !nameOk k then ([], 1) else match getM k st.fs with | none => ([], 2) | some f => (f.b, 0)

theorem total_le {k : ByteArray} {f : Fl} {fs : Fs} (h : getM k fs = some f) : (f.b.length : Int) ≤ total fs := by
  have := total_get h; have := total_nn (delM k fs); omega

theorem read_spec {d : Nat} {st : DS} {k : ByteArray} (i : Inv st) (hw : Sat R (DiskAt d st :: Hs) w) :
    Gets Tryz.prog 91 #[.pointer (some ⟨d, 0, none⟩), .string k] w fun r w' => ∃ t : Sl, r = .tuple #[.slice t.a t.len t.cap, .int .i64 (readD st k).2] ∧ Sat R (Own t 5 (b8 (readD st k).1) :: DiskAt d st :: Hs) w' := by
  have hw0 := hw
  obtain ⟨m, E, hE, hw⟩ := Sat.disk.1 hw
  apply call91
  refine NilP.mk rfl ⟨st.off, At.own (eqS hw) (by exact ⟨rfl, trivial⟩), Br.mk (fun ho => ?_) (fun ho => new_rule hw0 fun bt w hw => ?_)⟩
  · have e : readD st k = ([], 5) := if_pos ho
    rw [e]; exact ⟨⟨none, 0, 0⟩, rfl, Own.nil hw0⟩
  obtain ⟨hc, hwl⟩ := Sat.lend.1 hw
  refine (named_spec (names := [k]) hwl (ro_one hc) (by simp)).use ?_
  rintro _ w ⟨rfl, hw⟩
  have hw := (Sat.lend.2 ⟨hc, hw⟩).drop
  rw [all_one]
  refine ⟨_, rfl, Br.mk (fun hn => ?_) (fun hn => ?_)⟩
  · have e : readD st k = ([], 1) := by unfold readD; rw [if_neg (by simp [ho]), if_pos hn]
    rw [e]; exact ⟨⟨none, 0, 0⟩, rfl, Own.nil hw⟩
  obtain ⟨m, E, hE, hw⟩ := Sat.disk.1 hw
  refine NilP.mk rfl ⟨some m, At.own (eqS hw) (by exact ⟨rfl, trivial⟩), _, _, fun w' hw' => DO.look (eqS hw _ hw') k true, ?_⟩
  have e : readD st k = match getM k st.fs with | none => ([], 2) | some f => (f.b, 0) := by unfold readD; rw [if_neg (by simp [ho]), if_neg (by simp [hn])]
  refine Br.mk (fun hk => ?_) (fun hk => ?_)
  · simp only [Bool.not_eq_true', Option.isSome_eq_false_iff, Option.isNone_iff_eq_none] at hk
    have hk2 : getM k st.fs = none := by rw [← hE, er_get, hk]; rfl
    rw [e, hk2]
    exact ⟨⟨none, 0, 0⟩, rfl, Own.nil (DO.shut hE hw)⟩
  · simp only [Bool.not_eq_false'] at hk
    obtain ⟨⟨q, f⟩, hf⟩ := Option.isSome_iff_exists.1 hk
    have hk2 : getM k st.fs = some f := by rw [← hE, er_get, hf]; rfl
    obtain ⟨a, b, rfl, ha⟩ := getM_split hf
    rw [hf, e, hk2]
    have hlen := total_le hk2
    have r1 := i.r1; have hfull := i.full
    have hw : Sat R (FilesAt (a ++ (k, q, f) :: b) :: pts d (dCells st m) :: MapAt m (ptrs (a ++ (k, q, f) :: b)) :: Hs) w := (hw.cons fun _ h => h.swap).swap
    obtain ⟨s, hw⟩ := Sat.file.1 (Sat.split.1 hw)
    simp only at hw
    refine NilP.mk rfl ⟨s, by rw [add_off]; exact At.own (eqS hw) (by exact ⟨rfl, trivial⟩), ?_⟩
    obtain ⟨R', hr, _, hw, back⟩ := Own.lend hw.swap (by rw [List.length_map]; omega)
    refine (clone_spec hr (by omega) hw).use ?_
    rintro _ w ⟨t, rfl, hw⟩
    refine ⟨t, rfl, t, rfl, (back hw).swap.cons fun _ h => ?_⟩
    have h2 : Sat _ (FilesAt (a ++ (k, q, f) :: b) :: pts d (dCells st m) :: MapAt m (ptrs (a ++ (k, q, f) :: b)) :: Hs) w := Sat.split.2 (Sat.file.2 ⟨s, h.swap⟩)
    exact DO.shut hE (h2.swap.cons fun _ h => h.swap)

/-- A shorter part of a slice that one owns. -/
theorem Own.short {s : Sl} {T : TypeId} {xs : List Value} (hw : Sat R (Own s T xs :: Hs) w) {n : Nat} (hn : n ≤ xs.length) : Sat R (Own ⟨s.a, n, s.cap⟩ T (xs.take n) :: Hs) w := by
  rcases Own.cases hw with ⟨rfl, rfl, h⟩ | ⟨b, rest, fr, rfl, hf, h⟩
  · obtain rfl : n = 0 := by simpa using hn
    exact Own.nil h
  · have e : xs ++ rest = xs.take n ++ (xs.drop n ++ rest) := by rw [← List.append_assoc, List.take_append_drop]
    rw [e] at h hf
    have h2 := Own.of_pts h hf
    have e2 : (xs.take n).length = n := by simp; omega
    rw [e2] at h2
    have e3 : (xs.take n ++ (xs.drop n ++ rest)).length = (xs ++ rest).length := by rw [← e]
    rw [e3] at h2
    exact h2

/-! ### Crash -/

/-- How many of the bytes that were not synced stay. -/
def stay (kp : Option Int) (f : Fl) : Nat := match kp with | none => 0 | some x => (min (max x 0) ((f.b.length : Int) - f.sure)).toNat
def cutF (kp : Option Int) (f : Fl) : Fl := ⟨f.b.take (f.sure + stay kp f), f.sure + stay kp f⟩
def crashL : List ByteArray → List Int → Fs → Fs
  | [], _, fs => fs
  | k :: ks, keep, fs => crashL ks keep.tail (updM k (cutF keep.head?) fs)
def crashD (st : DS) (keep : List Int) : DS := ⟨st.room, crashL (namesOf st.fs) keep st.fs, -1, -1, false⟩

theorem stay_le (kp : Option Int) (f : Fl) (h : f.sure ≤ f.b.length) : f.sure + stay kp f ≤ f.b.length := by
  unfold stay; split
  · omega
  · omega

theorem getM_upd {β : Type} {k : ByteArray} {g : β → β} : ∀ {l : List (ByteArray × β)} {v : β}, getM k l = some v → getM k (updM k g l) = some (g v)
  | [], _, h => by cases h
  | e :: l, v, h => by
    rw [getM] at h
    rw [updM]
    split at h
    · rename_i hk; rw [if_pos hk, getM, if_pos hk]; simp only [Option.some.injEq] at h ⊢; rw [h]
    · rename_i hk; rw [if_neg hk, getM, if_neg hk]; exact getM_upd h

theorem total_upd {k : ByteArray} {g : Fl → Fl} {fs : Fs} {f : Fl} (h : getM k fs = some f) : total (updM k g fs) = total fs - f.b.length + (g f).b.length := by
  obtain ⟨a, b, rfl, ha⟩ := getM_split h
  rw [updM_app ha, total_one, total_one]; omega

theorem mem_names {fs : Fs} {k : ByteArray} : k ∈ namesOf fs ↔ k ∈ fs.map (·.1) := by
  unfold namesOf
  rw [List.mem_map]
  constructor
  · rintro ⟨l, hl, rfl⟩
    rw [List.mem_mergeSort, List.mem_map] at hl
    obtain ⟨e, he, rfl⟩ := hl
    exact List.mem_map.2 ⟨e, he, by simp⟩
  · intro h
    obtain ⟨e, he, rfl⟩ := List.mem_map.1 h
    exact ⟨e.1.data.toList, by rw [List.mem_mergeSort]; exact List.mem_map.2 ⟨e, he, rfl⟩, by simp⟩

theorem isSome_of_mem {β : Type} {k : ByteArray} {l : List (ByteArray × β)} (h : k ∈ l.map (·.1)) : (getM k l).isSome = true := by
  cases hg : getM k l with
  | some _ => rfl
  | none => exact absurd h (notin_of_getM hg)

theorem namesOf_len (fs : Fs) : (namesOf fs).length = fs.length := by simp [namesOf]

theorem crash_spec {d : Nat} {st : DS} {s : Sl} {keep : List Int} (i : Inv st) (hs : RoI R s keep) (hc : st.fs.length ≤ 1000000) (hw : Sat R (DiskAt d st :: Hs) w) :
    Gets Tryz.prog 19 #[.pointer (some ⟨d, 0, none⟩), .slice s.a s.len s.cap] w fun r w' => r = .tuple #[] ∧ Sat R (DiskAt d (crashD st keep) :: Hs) w' := by
  have r1 := i.r1
  have hfull := i.full
  have hsl := hs.len
  have hsb := hs.bound
  apply call19
  refine (names_spec i hc hw).use ?_
  rintro _ w ⟨t, rfl, hw⟩
  refine ⟨t, rfl, ?_⟩
  have hnl := namesOf_len st.fs
  obtain ⟨R', hr, up, hw, back⟩ := Own.lend hw (by rw [List.length_map, hnl]; omega)
  have htl : t.len = (namesOf st.fs).length := by have := hr.len; simpa using this
  refine ⟨fun x w => ∃ (k : Nat) (fs : Fs), x = k ∧ k ≤ (namesOf st.fs).length ∧ crashL (namesOf st.fs) keep st.fs = crashL ((namesOf st.fs).drop k) (keep.drop k) fs ∧ fs.map (·.1) = st.fs.map (·.1) ∧ total fs ≤ total st.fs ∧ SureOk fs ∧
    Sat R' (DiskAt d { st with fs := fs } :: Hs) w, fun x _ => (namesOf st.fs).length - x.toNat, ⟨0, st.fs, rfl, Nat.zero_le _, rfl, rfl, Int.le_refl _, i.sure, hw⟩, ?_⟩
  rintro z _ w ⟨k, fs, rfl, hk, he, hkeys, htot, hsure, hw⟩
  refine Br.mk (fun h => ?_) (fun h => ?_) <;> simp only [decide_eq_true_eq, decide_eq_false_iff_not] at h
  · have hk' : k < (namesOf st.fs).length := by omega
    rw [drop_get hk'] at he
    refine hr.idxStr (eqS hw) hk' ?_
    generalize hnm : (namesOf st.fs)[k] = nm at he
    have hmem : nm ∈ fs.map (·.1) := by rw [hkeys]; exact mem_names.1 (by rw [← hnm]; exact List.getElem_mem _)
    obtain ⟨m, E, hE, hw⟩ := Sat.disk.1 hw
    refine NilP.mk rfl ⟨some m, At.own (eqS hw) (by exact ⟨rfl, trivial⟩), _, fun w' hw' => DO.look (eqS hw _ hw') nm false, ?_⟩
    obtain ⟨⟨q, f⟩, hf⟩ := Option.isSome_iff_exists.1 (isSome_of_mem (l := E) (by rw [← er_keys, hE]; exact hmem))
    obtain ⟨a, b, rfl, ha⟩ := getM_split hf
    rw [hf]
    have hgf : getM nm fs = some f := by show getM nm ({ st with fs := fs } : DS).fs = _; rw [← hE, er_get, hf]; rfl
    have hfl := total_le hgf
    have hsf : f.sure ≤ f.b.length := by
      obtain ⟨a, b, e, _⟩ := getM_split hgf
      exact hsure (nm, f) (by rw [e]; simp)
    have hw : Sat R' (FilesAt (a ++ (nm, q, f) :: b) :: pts d (dCells { st with fs := fs } m) :: MapAt m (ptrs (a ++ (nm, q, f) :: b)) :: Hs) w := (hw.cons fun _ h => h.swap).swap
    obtain ⟨sf, hw⟩ := Sat.file.1 (Sat.split.1 hw)
    simp only at hw
    have hlf : sf.len = f.b.length := by have := Own.len hw.swap; rwa [List.length_map] at this
    have hcap : sf.len ≤ sf.cap := Own.cap hw.swap
    refine ⟨fun n w => n = stay (keep.drop k).head? f ∧ Sat R' (pts q (.cells [.slice sf.a sf.len sf.cap, .int .i64 f.sure].toArray 97 (0, 0)) :: Own sf 5 (b8 f.b) :: FilesAt (a ++ b) :: pts d (dCells { st with fs := fs } m) :: MapAt m (ptrs (a ++ (nm, q, f) :: b)) :: Hs) w, ?_, ?_⟩
    · refine Br.mk (fun h2 => ?_) (fun h2 => ?_) <;> simp only [decide_eq_true_eq, decide_eq_false_iff_not] at h2
      · have hk2 : k < keep.length := by omega
        refine drw_rule hw fun w hw => ?_
        refine (show RoI R' s keep from up _ _ hs).idx selfS hk2 ?_
        refine NilP.mk rfl ⟨_, by rw [add_off]; exact At.own selfS (by exact ⟨rfl, trivial⟩), NilP.mk rfl ⟨_, At.own selfS (by exact ⟨rfl, trivial⟩), ?_, hw⟩⟩
        rw [wrap64 (by omega) (by omega), drop_get hk2]
        simp only [List.head?_cons, stay]
        generalize keep[k] = x
        rw [hlf]
        split <;> split <;> omega
      · refine ⟨?_, hw⟩
        rw [List.drop_eq_nil_of_le (by omega)]; rfl
    rintro z n w ⟨rfl, hw⟩
    have hst := stay_le (keep.drop k).head? f hsf
    generalize hn : stay (keep.drop k).head? f = n at hst
    have hgt : cutF (keep.drop k).head? f = ⟨f.b.take (f.sure + n), f.sure + n⟩ := by unfold cutF; rw [hn]
    refine drw_rule hw fun w hw => ?_
    refine NilP.mk rfl ⟨total fs, At.own selfS (by exact ⟨rfl, trivial⟩), NilP.mk rfl ⟨_, by rw [add_off]; exact At.own selfS (by exact ⟨rfl, trivial⟩), NilP.mk rfl ⟨_, At.own selfS (by exact ⟨rfl, trivial⟩), NilP.mk rfl ?_⟩⟩⟩
    have hnn := total_nn fs
    rw [wrap64 (x := (sf.len : Int) - f.sure) (by omega) (by omega), wrap64 (x := (sf.len : Int) - f.sure - n) (by omega) (by omega), wrap64 (by omega) (by omega)]
    refine store_rule hw (by kernel_rfl) rfl (by simp [Value.cells, putL_len]) fun w hw => ?_
    have ef : crashL (nm :: (namesOf st.fs).drop (k + 1)) (keep.drop k) fs = crashL ((namesOf st.fs).drop (k + 1)) (keep.drop (k + 1)) (updM nm (cutF (keep.drop k).head?) fs) := by
      rw [crashL, List.tail_drop]
    have hw := hw.take (pts q (.cells [.slice sf.a sf.len sf.cap, .int .i64 f.sure].toArray 97 (0, 0)))
    refine drw_rule hw fun w hw => ?_
    refine NilP.mk rfl ⟨_, by rw [add_off]; exact At.own selfS (by exact ⟨rfl, trivial⟩), NilP.mk rfl ⟨_, At.own selfS (by exact ⟨rfl, trivial⟩), ?_⟩⟩
    rw [wrap64 (by omega) (by omega)]
    refine ⟨by omega, by omega, NilP.mk rfl ?_⟩
    rw [add_off, show ((f.sure : Int) + n).toNat = f.sure + n by omega]
    refine store_rule hw (by kernel_rfl) rfl (by simp [Value.cells, putL_len]) fun w hw => ?_
    refine NilP.mk rfl ⟨⟨sf.a, f.sure + n, sf.cap⟩, by rw [add_off]; exact At.own (eqS hw) (by exact ⟨rfl, trivial⟩), NilP.mk rfl ?_⟩
    refine store_rule hw (by kernel_rfl) rfl (by simp [Value.cells, putL_len]) fun w hw => ?_
    rw [wrap64 (by omega) (by omega)]
    have hw : Sat R' (pts q (.cells [.slice sf.a (f.sure + n) sf.cap, .int .i64 (f.sure + n : Nat)].toArray 97 (0, 0)) :: pts d (.cells [.int .i64 st.room, .int .i64 (total fs - ((sf.len : Int) - f.sure - n)), .map (some m), .int .i64 st.fail, .int .i64 st.arm, .bool st.off].toArray 86 (0, 0)) ::
        Own sf 5 (b8 f.b) :: FilesAt (a ++ b) :: MapAt m (ptrs (a ++ (nm, q, f) :: b)) :: Hs) w := hw
    have hw := Own.short (hw.take (Own sf 5 (b8 f.b))) (n := f.sure + n) (by simpa using hst)
    have hw : Sat R' (pts q (.cells [.slice sf.a (f.sure + n) sf.cap, .int .i64 (f.sure + n : Nat)].toArray 97 (0, 0)) :: Own ⟨sf.a, f.sure + n, sf.cap⟩ 5 (b8 (f.b.take (f.sure + n))) :: FilesAt (a ++ b) ::
        pts d (.cells [.int .i64 st.room, .int .i64 (total fs - ((sf.len : Int) - f.sure - n)), .map (some m), .int .i64 st.fail, .int .i64 st.arm, .bool st.off].toArray 86 (0, 0)) :: MapAt m (ptrs (a ++ (nm, q, f) :: b)) :: Hs) w := by
      rw [show b8 (f.b.take (f.sure + n)) = (b8 f.b).take (f.sure + n) from List.map_take]
      exact hw.swap.cons fun _ h => h.cons fun _ h => h.swap
    have hw : Sat R' (FilesAt (a ++ (nm, q, cutF (keep.drop k).head? f) :: b) :: _) w := Sat.split.2 (Sat.file.2 ⟨⟨sf.a, f.sure + n, sf.cap⟩, by rw [hgt]; exact hw⟩)
    have et := total_upd (g := cutF (keep.drop k).head?) hgf
    have e4 : total fs - ((sf.len : Int) - f.sure - n) = total (updM nm (cutF (keep.drop k).head?) fs) := by
      rw [et, hgt]; simp; omega
    rw [e4] at hw
    have efs : fs = er a ++ (nm, f) :: er b := by rw [← er_cons (nm, q, f), ← er_app]; exact hE.symm
    refine ⟨⟨k + 1, updM nm (cutF (keep.drop k).head?) fs, by omega, by omega, by rw [he, ef], by rw [updM_keys]; exact hkeys, by rw [← e4]; omega, sure_upd (fun f hf => ?_) hsure, ?_⟩, by dsimp only; omega⟩
    · have := stay_le (keep.drop k).head? f hf
      show f.sure + stay (keep.drop k).head? f ≤ (f.b.take (f.sure + stay (keep.drop k).head? f)).length
      rw [List.length_take]; omega
    · refine Sat.disk.2 ⟨m, a ++ (nm, q, cutF (keep.drop k).head? f) :: b, ?_, ?_⟩
      · simp only
        conv => rhs; rw [efs]
        rw [er_app, er_cons, updM_app (by rw [er_get, ha]; rfl)]
      · have ep : ptrs (a ++ (nm, q, cutF (keep.drop k).head? f) :: b) = ptrs (a ++ (nm, q, f) :: b) := by simp [ptrs]
        rw [ep]
        exact hw.swap.cons fun _ h => h.swap
  · have : k = (namesOf st.fs).length := by omega
    subst this
    rw [List.drop_length, crashL] at he
    obtain ⟨m, E, hE, hw⟩ := Sat.disk.1 hw
    refine NilP.mk rfl (store_rule hw (by kernel_rfl) rfl (by simp [Value.cells, putL_len]) fun w hw => ?_)
    refine NilP.mk rfl (store_rule hw (by kernel_rfl) rfl (by simp [Value.cells, putL_len]) fun w hw => ?_)
    refine NilP.mk rfl (store_rule hw (by kernel_rfl) rfl (by simp [Value.cells, putL_len]) fun w hw => ⟨rfl, ?_⟩)
    have hw : Sat R' (DiskAt d (crashD st keep) :: Hs) w := Sat.disk.2 ⟨m, E, by rw [hE]; exact he.symm, by
      unfold crashD; rw [he]; exact hw⟩
    exact (back hw).drop

end Go.Proofs.YtgfneeoponiibaaGreat
/- Package keep: writing a file whole. Condition: bounds on lengths. -/
namespace Go.Proofs.YtgfneeoponiibaaGreat
open Go Go.VC

variable {R : Cx} {Hs Rest : List HP} {w : World}

/-! ### slices.Contains of names -/
instance memDec (k : ByteArray) (l : List ByteArray) : Decidable (k ∈ l) := @List.instDecidableMemOfLawfulBEq ByteArray instBEqOfDecidableEq inferInstance k l

theorem index_spec {s : Sl} {l : List ByteArray} {k : ByteArray} (hs : Ro R s (l.map Value.string)) (hw : Sat R Hs w) :
    Gets Tryz.prog 114 #[.slice s.a s.len s.cap, .string k] w fun v w' => (∃ n : Int, v = .int .i64 n ∧ (k ∈ l ↔ 0 ≤ n)) ∧ Sat R Hs w' := by
  have hlen : s.len = l.length := by have := hs.len; simpa using this
  have hbd : l.length ≤ 9223372036854775807 := by have := hs.bound; simpa using this
  apply call114
  refine ⟨fun t w => ∃ j : Nat, t = j ∧ j ≤ l.length ∧ k ∉ l.take j ∧ Sat R Hs w, fun t _ => l.length - t.toNat, ⟨0, rfl, by omega, by simp, hw⟩, ?_⟩
  rintro _ _ w ⟨j, rfl, hj, hno, hw⟩
  refine Br.d (fun h => ?_) (fun h => ?_)
  · have hjl : j < l.length := by omega
    have := Ro.idxStr (S := fun w' => w' = w) hs (eqS hw) (k := j) hjl (F := fun t => t = l[j]) rfl
    obtain ⟨h0, h1, this⟩ := this.out
    obtain ⟨a, ha, t, hat, rfl⟩ := this.out
    refine Rng.mk h0 h1 (NilP.mk ha ⟨_, hat, ?_⟩)
    rw [str_eql]
    refine Br.d (fun h => ?_) (fun h => ?_)
    · exact ⟨⟨j, rfl, ⟨fun _ => by omega, fun _ => by rw [h]; exact List.getElem_mem _⟩⟩, hw⟩
    · rw [wrap64 (by omega) (by omega)]
      refine ⟨⟨j + 1, by omega, by omega, ?_, hw⟩, by dsimp only; omega⟩
      rw [List.take_succ_eq_append_getElem hjl, List.mem_append]
      rintro (h2 | h2)
      · exact hno h2
      · simp at h2; exact h h2
  · have : j = l.length := by omega
    subst this
    rw [List.take_length] at hno
    exact ⟨⟨-1, rfl, ⟨fun h => absurd h hno, fun h => by omega⟩⟩, hw⟩

theorem contains_spec {s : Sl} {l : List ByteArray} {k : ByteArray} (hs : Ro R s (l.map Value.string)) (hw : Sat R Hs w) :
    Gets Tryz.prog 87 #[.slice s.a s.len s.cap, .string k] w fun v w' => v = .bool (decide (k ∈ l)) ∧ Sat R Hs w' := by
  apply call87
  refine (index_spec hs hw).use ?_
  rintro _ w ⟨⟨n, rfl, hn⟩, hw⟩
  refine ⟨n, rfl, ?_, hw⟩
  congr 1
  rw [decide_eq_decide]
  exact hn.symm

/-! ### Writing -/
def nextOf (name : ByteArray) : ByteArray := name ++ ByteArray.mk #[46, 110, 101, 119]
def writeGo (st : DS) (name : ByteArray) (b : List Int) : DS × Int :=
  if (appendD st (nextOf name) (recB b)).2 ≠ 0 then appendD st (nextOf name) (recB b)
  else if (syncD (appendD st (nextOf name) (recB b)).1 (nextOf name)).2 ≠ 0 then syncD (appendD st (nextOf name) (recB b)).1 (nextOf name)
  else renameD (syncD (appendD st (nextOf name) (recB b)).1 (nextOf name)).1 (nextOf name) name
def writeD (st : DS) (name : ByteArray) (b : List Int) : DS × Int :=
  if b.length > 65536 then (st, 3)
  else if nextOf name ∈ namesOf st.fs then
    if (unlinkD st (nextOf name)).2 ≠ 0 then unlinkD st (nextOf name) else writeGo (unlinkD st (nextOf name)).1 name b
  else writeGo st name b

/-- What is written, once its bytes are known. -/
def WriteT (d0 : Option Addr) (name1 : ByteArray) (t19 : Sl) (K : Value → World → Prop) (w_3 : World) : Prop :=
  Calls Tryz.prog 86 #[.slice t19.a t19.len t19.cap] w_3 fun e_1 w_4 =>
  ∃ t30 : Sl, ∃ t30_1 : Int, (e_1 = .returned (.tuple #[.slice t30.a t30.len t30.cap, .int .i64 t30_1])) ∧
  Br (t30_1 != 0)
   (K (.int .i64 t30_1) w_4)
   ((((↑(name1.size + (ByteArray.mk #[46, 110, 101, 119]).size) : Int) : Int) ≤ 9223372036854775807) ∧
    ∃ (J_1 : World → Prop), (Calls Tryz.prog 60 #[.pointer d0] w_4 fun e_2 w_5 =>
      ∃ t39 : Sl, (e_2 = .returned (.slice t39.a t39.len t39.cap)) ∧
      Calls Tryz.prog 87 #[.slice t39.a t39.len t39.cap, .string (name1 ++ ByteArray.mk #[46, 110, 101, 119])] w_5 fun e_3 w_6 =>
      ∃ t41 : Bool, (e_3 = .returned (.bool t41)) ∧
      Br t41
       (Calls Tryz.prog 88 #[.pointer d0, .string (name1 ++ ByteArray.mk #[46, 110, 101, 119])] w_6 fun e_4 w_7 =>
        ∃ t44 : Int, (e_4 = .returned (.int .i64 t44)) ∧
        Br (t44 != 0)
         (K (.int .i64 t44) w_7)
         (J_1  w_7))
       (J_1  w_6)) ∧
    ∀ (z_1 : Env)  (w_8 : World), J_1  w_8 →
    Calls Tryz.prog 30 #[.pointer d0, .string (name1 ++ ByteArray.mk #[46, 110, 101, 119]), .slice t30.a t30.len t30.cap] w_8 fun e_5 w_9 =>
    ∃ t51 : Int, (e_5 = .returned (.int .i64 t51)) ∧
    Br (t51 != 0)
     (K (.int .i64 t51) w_9)
     (Calls Tryz.prog 89 #[.pointer d0, .string (name1 ++ ByteArray.mk #[46, 110, 101, 119])] w_9 fun e_6 w_10 =>
      ∃ t57 : Int, (e_6 = .returned (.int .i64 t57)) ∧
      Br (t57 != 0)
       (K (.int .i64 t57) w_10)
       (Calls Tryz.prog 90 #[.pointer d0, .string (name1 ++ ByteArray.mk #[46, 110, 101, 119]), .string name1] w_10 fun e_7 w_11 =>
        ∃ t64 : Int, (e_7 = .returned (.int .i64 t64)) ∧
        K (.int .i64 t64) w_11)))

theorem writeT_of {d : Nat} {st : DS} {name : ByteArray} {t : Sl} {b : List Int} {K : Value → World → Prop} (i : Inv st) (hc : st.fs.length ≤ 1000000) (hname : name.size ≤ 1000) (hb : ∀ x ∈ b, 0 ≤ x ∧ x < 256) (hs : Ro R t (b8 b)) (hw : Sat R (DiskAt d st :: Hs) w)
    (hK : ∀ w', Sat R (DiskAt d (writeD st name b).1 :: Hs) w' → K (.int .i64 (writeD st name b).2) w') : WriteT (some ⟨d, 0, none⟩) name t K w := by
  unfold WriteT
  refine (rput_spec hb hs hw).use ?_
  rintro _ w (⟨hbig, rfl, hw⟩ | ⟨hbl, t2, rfl, hw⟩)
  · refine ⟨⟨none, 0, 0⟩, 3, rfl, Br.ne (fun h => ?_) (fun h => by cases h)⟩
    have e : writeD st name b = (st, 3) := if_pos hbig
    rw [e] at hK
    exact hK w hw
  · refine ⟨t2, 0, rfl, Br.ne (fun h => absurd rfl h) (fun _ => ?_)⟩
    have hrl : (recB b).length ≤ 65544 := by rw [recB_len]; omega
    obtain ⟨R', hr2, hkeep, hw, back⟩ := Own.lend hw (by simp; omega)
    have hgoK : ∀ st', Inv st' → (∀ w', Sat R (DiskAt d (writeGo st' name b).1 :: Hs) w' → K (.int .i64 (writeGo st' name b).2) w') → ∀ w, Sat R' (DiskAt d st' :: Hs) w →
        Calls Tryz.prog 30 #[.pointer (some ⟨d, 0, none⟩), .string (name ++ ByteArray.mk #[46, 110, 101, 119]), .slice t2.a t2.len t2.cap] w fun e_5 w_9 =>
        ∃ t51 : Int, (e_5 = .returned (.int .i64 t51)) ∧
        Br (t51 != 0)
         (K (.int .i64 t51) w_9)
         (Calls Tryz.prog 89 #[.pointer (some ⟨d, 0, none⟩), .string (name ++ ByteArray.mk #[46, 110, 101, 119])] w_9 fun e_6 w_10 =>
          ∃ t57 : Int, (e_6 = .returned (.int .i64 t57)) ∧
          Br (t57 != 0)
           (K (.int .i64 t57) w_10)
           (Calls Tryz.prog 90 #[.pointer (some ⟨d, 0, none⟩), .string (name ++ ByteArray.mk #[46, 110, 101, 119]), .string name] w_10 fun e_7 w_11 =>
            ∃ t64 : Int, (e_7 = .returned (.int .i64 t64)) ∧
            K (.int .i64 t64) w_11)) := by
      intro st' i' hK' w hw
      refine (append_spec (k := nextOf name) (xs := recB b) i' hr2 (by omega) hw).use ?_
      rintro _ w ⟨rfl, hw⟩
      refine ⟨_, rfl, Br.ne (fun h => ?_) (fun h => ?_)⟩
      · have e : writeGo st' name b = appendD st' (nextOf name) (recB b) := if_pos h
        rw [e] at hK'
        exact hK' w (back hw).drop
      · have i1 := appendD_inv i' (nextOf name) (recB b)
        refine (sync_spec (k := nextOf name) i1 hw).use ?_
        rintro _ w ⟨rfl, hw⟩
        refine ⟨_, rfl, Br.ne (fun h2 => ?_) (fun h2 => ?_)⟩
        · have e : writeGo st' name b = syncD (appendD st' (nextOf name) (recB b)).1 (nextOf name) := by unfold writeGo; rw [if_neg (by simpa using h), if_pos h2]
          rw [e] at hK'
          exact hK' w (back hw).drop
        · have i2 := sync_inv i1 (nextOf name)
          refine (rename_spec (k := nextOf name) (to := name) i2 hw).use ?_
          rintro _ w ⟨rfl, hw⟩
          refine ⟨_, rfl, ?_⟩
          have e : writeGo st' name b = renameD (syncD (appendD st' (nextOf name) (recB b)).1 (nextOf name)).1 (nextOf name) name := by unfold writeGo; rw [if_neg (by simpa using h), if_neg (by simpa using h2)]
          rw [e] at hK'
          exact hK' w (back hw).drop
    have hbig : ¬ b.length > 65536 := by omega
    refine ⟨by show ((name.size + 4 : Nat) : Int) ≤ _; omega, ?_⟩
    refine ⟨fun w => ∃ st', Inv st' ∧ (∀ w', Sat R (DiskAt d (writeGo st' name b).1 :: Hs) w' → K (.int .i64 (writeGo st' name b).2) w') ∧ Sat R' (DiskAt d st' :: Hs) w, ?_, fun _ w ⟨st', i', hK', hw⟩ => hgoK st' i' hK' w hw⟩
    refine (names_spec i hc hw).use ?_
    rintro _ w ⟨l, rfl, hw⟩
    refine ⟨l, rfl, ?_⟩
    obtain ⟨R2, hrl2, _, hw, back2⟩ := Own.lend hw (by rw [List.length_map, namesOf_len]; omega)
    refine (contains_spec (k := nextOf name) hrl2 hw).use ?_
    rintro _ w ⟨rfl, hw⟩
    have hw := (back2 hw).drop
    refine ⟨_, rfl, Br.d (fun h => ?_) (fun h => ?_)⟩
    · refine (unlink_spec (k := nextOf name) i hw).use ?_
      rintro _ w ⟨rfl, hw⟩
      refine ⟨_, rfl, Br.ne (fun h2 => ?_) (fun h2 => ?_)⟩
      · have e : writeD st name b = unlinkD st (nextOf name) := by unfold writeD; rw [if_neg hbig, if_pos h, if_pos h2]
        rw [e] at hK
        exact hK w (back hw).drop
      · have e : writeD st name b = writeGo (unlinkD st (nextOf name)).1 name b := by unfold writeD; rw [if_neg hbig, if_pos h, if_neg (by simpa using h2)]
        rw [e] at hK
        exact ⟨_, unlink_inv i _, hK, hw⟩
    · have e : writeD st name b = writeGo st name b := by unfold writeD; rw [if_neg hbig, if_neg h]
      rw [e] at hK
      exact ⟨st, i, hK, hw⟩

end Go.Proofs.YtgfneeoponiibaaGreat
/- Package keep: a hard state's bytes. Condition: none. -/
namespace Go.Proofs.YtgfneeoponiibaaGreat
open Go Go.VC

variable {R : Cx} {Hs Rest : List HP} {w : World}

theorem within_spec (n m : Int) (hw : Sat R Hs w) : Gets Tryz.prog 75 #[.int .i64 n, .int .i64 m] w fun v w' => v = .bool (decide (0 ≤ n ∧ n ≤ m)) ∧ Sat R Hs w' := by
  apply call75
  refine Br.d (fun h => ?_) (fun h => ?_)
  · refine ⟨?_, hw⟩
    congr 1
    rw [decide_eq_decide]
    omega
  · refine ⟨?_, hw⟩
    rw [decide_eq_false (by omega)]

def hardOk (t v : Int) : Prop := (0 ≤ t ∧ t ≤ 1099511627776) ∧ (0 ≤ v ∧ v ≤ 15)
def hardB (t v : Int) : List Int := numB t.toNat ++ numB v.toNat

theorem hardB_bd {t v : Int} (h : hardOk t v) : ∀ x ∈ hardB t v, 0 ≤ x ∧ x < 256 := by
  obtain ⟨h1, h2⟩ := h
  intro x hx
  rcases List.mem_append.1 hx with hx | hx
  · exact numB_bd (by omega) x hx
  · exact numB_bd (by omega) x hx

theorem encHard_spec (t v : Int) (hw : Sat R Hs w) : Gets Tryz.prog 55 #[.agg #[.int .i64 t, .int .i64 v]] w fun r w' =>
    (¬ hardOk t v ∧ r = .tuple #[.slice none 0 0, .int .i64 1] ∧ Sat R Hs w') ∨ (hardOk t v ∧ ∃ s : Sl, r = .tuple #[.slice s.a s.len s.cap, .int .i64 0] ∧ Sat R (Own s 5 (b8 (hardB t v)) :: Hs) w') := by
  apply call55
  refine new_rule hw fun bh w hw => ?_
  have hw : Sat R (pts bh (.cells [.int .i64 t, .int .i64 v].toArray 37 (0, 0)) :: Hs) w := hw
  refine ⟨t, At.own (eqS hw) (by exact ⟨rfl, trivial⟩), (within_spec t _ hw).use ?_⟩
  rintro _ w ⟨rfl, hw⟩
  refine ⟨_, rfl, Br.nb (fun h => ?_) (fun h => ?_)⟩
  · have h := of_decide_eq_false h
    exact .inl ⟨fun hk => h hk.1, rfl, hw.drop⟩
  have ht := of_decide_eq_true h
  refine ⟨v, At.own (eqS hw) (by exact ⟨rfl, trivial⟩), (within_spec v _ hw).use ?_⟩
  rintro _ w ⟨rfl, hw⟩
  refine ⟨_, rfl, Br.nb (fun h => ?_) (fun h => ?_)⟩
  · have h := of_decide_eq_false h
    exact .inl ⟨fun hk => h hk.2, rfl, hw.drop⟩
  have hv := of_decide_eq_true h
  refine drw_rule' (Sat R [pts bh (.cells [.int .i64 t, .int .i64 v].toArray 37 (0, 0)), VC.tru]) hw (fun w hw => hw.restTru) fun w hw => ?_
  refine ⟨t, At.own selfS (by exact ⟨rfl, trivial⟩), ?_⟩
  refine ⟨v, At.own selfS (by exact ⟨rfl, trivial⟩), ?_⟩
  rw [wrapU64 (x := t) (by omega) (by omega), wrapU64 (x := v) (by omega) (by omega)]
  obtain ⟨tn, rfl⟩ := Int.eq_ofNat_of_zero_le ht.1
  obtain ⟨vn, rfl⟩ := Int.eq_ofNat_of_zero_le hv.1
  refine (number_spec (n := tn) (by omega) hw).use ?_
  rintro _ w ⟨s1, rfl, hw⟩
  refine ⟨s1, rfl, hw.swap.restTru, ?_⟩
  refine (number_spec (n := vn) (by omega) hw).use ?_
  rintro _ w ⟨s2, rfl, hw⟩
  have hw2 : Sat R (pts bh (.cells [.int .i64 tn, .int .i64 vn].toArray 37 (0, 0)) :: Own s2 5 (b8 (numB vn)) :: Own s1 5 (b8 (numB tn)) :: Hs) w := hw.arr
  refine ⟨s2, rfl, hw2.restTru, ?_⟩
  have hl1 := numB_len (n := tn) (by omega)
  have hl2 := numB_len (n := vn) (by omega)
  obtain ⟨R', hr2, _, hw3, back⟩ := Own.lend hw (by simp; omega)
  have hsrc : Src Tryz.prog 1 25 (.slice s2.a s2.len s2.cap) (numB vn).length (b8 (numB vn)) w := by
    have := srcRo Tryz.underlying25 hw3 hr2 (one_b8 _)
    simpa using this
  refine append_rule elB8 (s := s1) hw3 hsrc (one_b8 _) (by rw [List.length_map]; omega) (by rw [List.length_map]; omega) fun s3 w hw => ?_
  have hw := (back hw).drop
  have e : b8 (numB tn) ++ b8 (numB vn) = b8 (hardB tn vn) := by simp [hardB, b8]
  rw [e] at hw
  refine ⟨hw.swap.restTru, .inr ⟨⟨ht, hv⟩, s3, rfl, hw.cons fun _ h => h.drop⟩⟩

/-- A hard state out of bytes. -/
def decHard (x : List Int) : (Int × Int) × Int :=
  if rdWhole (rdNum 15 (rdNum 1099511627776 ⟨x, false⟩).2).2 then (((rdNum 1099511627776 ⟨x, false⟩).1, (rdNum 15 (rdNum 1099511627776 ⟨x, false⟩).2).1), 0) else ((0, 0), 6)

theorem decHard_spec {s : Sl} {x : List Int} (hb : ∀ y ∈ x, 0 ≤ y ∧ y < 256) (hs : Ro R s (b8 x)) (hl : x.length ≤ 1099511627776) (hw : Sat R Hs w) :
    Gets Tryz.prog 58 #[.slice s.a s.len s.cap] w fun r w' => r = .tuple #[.agg #[.int .i64 (decHard x).1.1, .int .i64 (decHard x).1.2], .int .i64 (decHard x).2] ∧ Sat R Hs w' := by
  apply call58
  refine new_rule hw fun b2 w hw => ?_
  have hw : Sat R (pts b2 (.cells [.int .i64 0, .int .i64 0].toArray 37 (0, 0)) :: Hs) w := hw
  refine (fnew_spec hs hl hw).use ?_
  rintro _ w ⟨r, rfl, hw⟩
  refine ⟨_, rfl, (rnum_spec (most := 1099511627776) hb hw).use ?_⟩
  rintro _ w ⟨rfl, hw⟩
  have hb1 := rdNum_bd (most := 1099511627776) (rd := ⟨x, false⟩) hb
  have hv1 := rdNum_val (most := 1099511627776) (rd := ⟨x, false⟩) hb (by omega)
  refine ⟨_, rfl, (rnum_spec (most := 15) hb1 hw).use ?_⟩
  rintro _ w ⟨rfl, hw⟩
  have hv2 := rdNum_val (most := 15) hb1 (by omega)
  refine ⟨_, rfl, ?_⟩
  refine new_rule hw fun bh w hw => ?_
  have hw : Sat R (pts bh (.cells [.int .i64 0, .int .i64 0].toArray 37 (0, 0)) :: RdAt r (rdNum 15 (rdNum 1099511627776 ⟨x, false⟩).2).2 :: pts b2 (.cells [.int .i64 0, .int .i64 0].toArray 37 (0, 0)) :: Hs) w := hw
  rw [wrap64 (by omega) (by omega), wrap64 (by omega) (by omega)]
  unfold decHard
  generalize rdNum 1099511627776 ⟨x, false⟩ = a at *
  generalize rdNum 15 a.2 = b at *
  refine store_rule hw (by kernel_rfl) rfl (by simp [Value.cells]) fun w hw => ?_
  have hw := hw.re (pts bh (.cells [.int .i64 a.1, .int .i64 b.1].toArray 37 (0, 0)))
  refine (whole_spec hw.swap).use ?_
  rintro _ w ⟨rfl, hw⟩
  refine ⟨_, rfl, Br.nb (fun h => ?_) (fun h => ?_)⟩
  · rw [if_neg (by rw [h]; simp)]
    have hw : Sat R (pts b2 (.cells [.int .i64 0, .int .i64 0].toArray 37 (0, 0)) :: RdAt r b.2 :: pts bh (.cells [.int .i64 a.1, .int .i64 b.1].toArray 37 (0, 0)) :: Hs) w := hw.arr
    refine store_rule hw (by kernel_rfl) rfl (by simp [Value.cells]) fun w hw => ?_
    have hw := hw.re (pts b2 (.cells [.int .i64 0, .int .i64 0].toArray 37 (0, 0)))
    exact ⟨0, 0, At.own (eqS hw) (by exact ⟨rfl, rfl, trivial⟩), rfl, hw.drop.drop.drop⟩
  · rw [if_pos h]
    have hw : Sat R (pts b2 (.cells [.int .i64 0, .int .i64 0].toArray 37 (0, 0)) :: RdAt r b.2 :: pts bh (.cells [.int .i64 a.1, .int .i64 b.1].toArray 37 (0, 0)) :: Hs) w := hw.arr
    refine ⟨a.1, b.1, At.own (eqS hw) (by exact ⟨rfl, rfl, trivial⟩), ?_⟩
    refine store_rule hw (by kernel_rfl) rfl (by simp [Value.cells]) fun w hw => ?_
    have hw := hw.re (pts b2 (.cells [.int .i64 a.1, .int .i64 b.1].toArray 37 (0, 0)))
    exact ⟨a.1, b.1, At.own (eqS hw) (by exact ⟨rfl, rfl, trivial⟩), rfl, hw.drop.drop.drop⟩

end Go.Proofs.YtgfneeoponiibaaGreat
/- Package keep: hard states on a disk. Condition: bounds on how many files there are; the files' bytes are bytes. -/
namespace Go.Proofs.YtgfneeoponiibaaGreat
open Go Go.VC

variable {R : Cx} {Hs Rest : List HP} {w : World}

/-! ### The files' bytes are bytes -/
def Byt (l : List Int) : Prop := ∀ x ∈ l, 0 ≤ x ∧ x < 256
def ByOk (fs : Fs) : Prop := ∀ e ∈ fs, Byt e.2.b
theorem Byt.app {a b : List Int} (ha : Byt a) (hb : Byt b) : Byt (a ++ b) := fun x hx => (List.mem_append.1 hx).elim (ha x) (hb x)
theorem updM_mem {k : ByteArray} {g : Fl → Fl} : ∀ {l : Fs} {e}, e ∈ updM k g l → ∃ e0 ∈ l, e = e0 ∨ e = (e0.1, g e0.2)
  | [], _, h => by cases h
  | a :: l, e, h => by
    unfold updM at h
    split at h
    · rcases List.mem_cons.1 h with rfl | h
      · exact ⟨a, List.mem_cons_self .., .inr rfl⟩
      · exact ⟨e, List.mem_cons_of_mem _ h, .inl rfl⟩
    · rcases List.mem_cons.1 h with rfl | h
      · exact ⟨_, List.mem_cons_self .., .inl rfl⟩
      · obtain ⟨e0, h0, h1⟩ := updM_mem h
        exact ⟨e0, List.mem_cons_of_mem _ h0, h1⟩
theorem by_upd {k : ByteArray} {g : Fl → Fl} {fs : Fs} (h : ByOk fs) (hg : ∀ f, Byt f.b → Byt (g f).b) : ByOk (updM k g fs) := fun e he => by
  obtain ⟨e0, h0, rfl | rfl⟩ := updM_mem he
  · exact h _ h0
  · exact hg _ (h _ h0)
theorem by_ensure {fs : Fs} (h : ByOk fs) (k : ByteArray) : ByOk (ensure k fs) := by
  unfold ensure
  split
  · exact h
  · intro e he
    rcases List.mem_append.1 he with he | he
    · exact h e he
    · simp at he; subst he; exact fun _ h => by cases h
theorem by_append {st : DS} (h : ByOk st.fs) (k : ByteArray) {xs : List Int} (hx : Byt xs) : ByOk (appendD st k xs).1.fs := by
  have hc := (chg_fs st (nameOk k)).1
  unfold appendD doing
  split
  · show ByOk (appendG (chg st (nameOk k)).1 k xs).1.fs
    unfold appendG
    split
    · rw [hc]; exact h
    · simp only [putB]
      rw [hc]
      exact by_upd (by_ensure h k) fun f hf => hf.app hx
  · rw [hc]; exact h
theorem by_sync {st : DS} (h : ByOk st.fs) (k : ByteArray) : ByOk (syncD st k).1.fs := by
  have hc := (chg_fs st (nameOk k)).1
  unfold syncD doing
  split
  · unfold syncG
    split
    · simp only; rw [hc]; exact by_upd h fun f hf => hf
    · rw [hc]; exact h
  · rw [hc]; exact h
theorem by_del {fs : Fs} (h : ByOk fs) (k : ByteArray) : ByOk (delM k fs) := fun e he => h e ((delM_sub k fs).subset he)
theorem by_unlink {st : DS} (h : ByOk st.fs) (k : ByteArray) : ByOk (unlinkD st k).1.fs := by
  have hc := (chg_fs st (nameOk k)).1
  unfold unlinkD doing
  split
  · unfold unlinkG
    split
    · simp only; rw [hc]; exact by_del h k
    · rw [hc]; exact h
  · rw [hc]; exact h
theorem getM_mem {β : Type} {k : ByteArray} : ∀ {l : List (ByteArray × β)} {v : β}, getM k l = some v → ∃ k', (k', v) ∈ l := fun {l v} h => by
  obtain ⟨a, b, rfl, _⟩ := getM_split h
  exact ⟨k, by simp⟩
theorem by_rename {st : DS} (h : ByOk st.fs) (k to : ByteArray) : ByOk (renameD st k to).1.fs := by
  have hc := (chg_fs st (nameOk k && nameOk to)).1
  unfold renameD doing
  split
  · unfold renameG
    split
    · rename_i f hf
      split
      · rw [hc]; exact h
      · simp only
        intro e he
        rcases List.mem_append.1 he with he | he
        · rw [hc] at he; exact by_del (by_del h to) k e he
        · simp at he; subst he
          obtain ⟨k', hm⟩ := getM_mem hf
          rw [hc] at hm
          exact (h (k', f) hm : Byt f.b)
    · rw [hc]; exact h
  · rw [hc]; exact h
theorem by_go {st : DS} (h : ByOk st.fs) (name : ByteArray) {b : List Int} (hb : Byt b) : ByOk (writeGo st name b).1.fs := by
  have h1 := by_append h (nextOf name) (recB_bd hb)
  unfold writeGo
  split
  · exact h1
  · split
    · exact by_sync h1 _
    · exact by_rename (by_sync h1 _) _ _
theorem by_write {st : DS} (h : ByOk st.fs) (name : ByteArray) {b : List Int} (hb : Byt b) : ByOk (writeD st name b).1.fs := by
  unfold writeD
  split
  · exact h
  · split
    · split
      · exact by_unlink h _
      · exact by_go (by_unlink h _) name hb
    · exact by_go h name hb
theorem by_read {st : DS} (h : ByOk st.fs) (k : ByteArray) : Byt (readD st k).1 := by
  unfold readD
  split
  · exact fun _ h => by cases h
  · split
    · exact fun _ h => by cases h
    · split
      · exact fun _ h => by cases h
      · rename_i f hf
        obtain ⟨k', hm⟩ := getM_mem hf
        exact h _ hm

theorem go_inv {st : DS} (i : Inv st) (name : ByteArray) (b : List Int) : Inv (writeGo st name b).1 := by
  unfold writeGo
  split
  · exact appendD_inv i _ _
  · split
    · exact sync_inv (appendD_inv i _ _) _
    · exact rename_inv (sync_inv (appendD_inv i _ _) _) _ _
theorem write_inv {st : DS} (i : Inv st) (name : ByteArray) (b : List Int) : Inv (writeD st name b).1 := by
  unfold writeD
  split
  · exact i
  · split
    · split
      · exact unlink_inv i _
      · exact go_inv (unlink_inv i _) _ _
    · exact go_inv i _ _

/-! ### The one record of a file -/
def recOf (bs : List Int) : Option (List Int) := match scan bs with | [x] => if scanLen (scan bs) = bs.length then some x else none | _ => none
/-- What a file has: its one record's bytes; the error. -/
def oneD (st : DS) (name : ByteArray) : Option (List Int) × Int :=
  if (readD st name).2 = 0 then (match recOf (readD st name).1 with | some x => (some x, 0) | none => (none, 6))
  else if (readD st name).2 = 2 then (none, 0) else (none, (readD st name).2)

theorem scan_mem : ∀ (n : Nat) (bs : List Int), bs.length ≤ n → ∀ x ∈ scan bs, x.length ≤ 65536 ∧ ∀ y ∈ x, y ∈ bs := fun n => by
  induction n with
  | zero =>
    intro bs h x hx
    cases hf : first bs with
    | none => rw [scan_none hf] at hx; cases hx
    | some b => have := (first_len hf).1; omega
  | succ n ih =>
    intro bs h x hx
    cases hf : first bs with
    | none => rw [scan_none hf] at hx; cases hx
    | some b =>
      obtain ⟨h1, h2, h3, _⟩ := first_len hf
      rw [scan_some hf] at hx
      rcases List.mem_cons.1 hx with rfl | hx
      · exact ⟨h2, fun y hy => by rw [h3] at hy; exact List.mem_of_mem_drop (List.mem_of_mem_take hy)⟩
      · obtain ⟨h4, h5⟩ := ih _ (by simp; omega) x hx
        exact ⟨h4, fun y hy => List.mem_of_mem_drop (h5 y hy)⟩
theorem recOf_ok {bs x : List Int} (hb : Byt bs) (h : recOf bs = some x) : x.length ≤ 65536 ∧ Byt x ∧ scan bs = [x] ∧ scanLen (scan bs) = bs.length := by
  unfold recOf at h
  split at h
  · rename_i y hy
    split at h
    · rename_i hl
      cases h
      obtain ⟨h1, h2⟩ := scan_mem _ bs (Nat.le_refl _) x (by rw [hy]; simp)
      exact ⟨h1, fun z hz => hb z (h2 z hz), hy, hl⟩
    · cases h
  · cases h
theorem recOf_rec {b : List Int} (hl : b.length ≤ 65536) (hb : Byt b) : recOf (recB b) = some b := by
  unfold recOf
  rw [scan_rec hl hb]
  have : scanLen [b] = (recB b).length := by rw [recB_len]; rfl
  simp [this]

/-! ### Hard states -/
def hardN : ByteArray := ByteArray.mk #[104, 97, 114, 100]
def saveHardD (st : DS) (t v : Int) [Decidable (hardOk t v)] : DS × Int := if hardOk t v then writeD st hardN (hardB t v) else (st, 1)
def loadHardD (st : DS) : (Int × Int) × Int := match oneD st hardN with | (some x, _) => decHard x | (none, e) => ((0, 0), e)

instance hardDec (t v : Int) : Decidable (hardOk t v) := inferInstanceAs (Decidable ((0 ≤ t ∧ t ≤ 1099511627776) ∧ (0 ≤ v ∧ v ≤ 15)))

theorem saveHard_spec {d : Nat} {st : DS} {t v : Int} (i : Inv st) (hc : st.fs.length ≤ 1000000) (hw : Sat R (DiskAt d st :: Hs) w) :
    Gets Tryz.prog 15 #[.pointer (some ⟨d, 0, none⟩), .agg #[.int .i64 t, .int .i64 v]] w fun r w' => r = .int .i64 (saveHardD st t v).2 ∧ Sat R (DiskAt d (saveHardD st t v).1 :: Hs) w' := by
  apply call15
  refine new_rule hw fun bh w hw => ?_
  have hw : Sat R (pts bh (.cells [.int .i64 t, .int .i64 v].toArray 37 (0, 0)) :: DiskAt d st :: Hs) w := hw
  refine ⟨t, v, At.own (eqS hw) (by exact ⟨rfl, rfl, trivial⟩), ?_⟩
  have key : Gets Tryz.prog 54 #[.pointer (some ⟨d, 0, none⟩), .string hardN, .agg #[.int .i64 t, .int .i64 v], .func (.func 55) #[] #[]] w fun r w' => r = .int .i64 (saveHardD st t v).2 ∧ Sat R (DiskAt d (saveHardD st t v).1 :: Hs) w' := by
    apply call54
    refine new_rule hw.drop fun bx w hw => ?_
    have hw : Sat R (pts bx (.cells [.int .i64 t, .int .i64 v].toArray 37 (0, 0)) :: DiskAt d st :: Hs) w := hw
    refine ⟨t, v, At.own (eqS hw) (by exact ⟨rfl, rfl, trivial⟩), CalW.mk (by kernel_rfl) ?_⟩
    refine (encHard_spec t v hw.drop).use ?_
    rintro _ w (⟨hno, rfl, hw⟩ | ⟨hok, s, rfl, hw⟩)
    · refine ⟨⟨none, 0, 0⟩, 1, rfl, fun _ => False, Br.f rfl (Br.ne (fun _ => ?_) (fun h => by cases h)), fun _ _ h => h.elim⟩
      unfold saveHardD
      rw [if_neg hno]
      exact ⟨rfl, hw⟩
    · obtain ⟨R', hr2, _, hw, back⟩ := Own.lend hw (by
        have h1 := numB_len (n := t.toNat) (by have := hok.1; omega)
        have h2 := numB_len (n := v.toNat) (by have := hok.2; omega)
        simp [hardB]; omega)
      refine ⟨s, 0, rfl, Sat R' (DiskAt d st :: Hs), Br.f rfl (Br.ne (fun h => absurd rfl h) (fun _ => hw)), ?_⟩
      intro _ w hw
      have := writeT_of (name := hardN) (b := hardB t v) (t := s) (K := fun r w' => r = .int .i64 (saveHardD st t v).2 ∧ Sat R (DiskAt d (saveHardD st t v).1 :: Hs) w') i hc (by decide) (hardB_bd hok) hr2 hw (fun w' hw' => by
        unfold saveHardD
        rw [if_pos hok]
        exact ⟨rfl, (back hw').drop⟩)
      exact this
  refine key.use ?_
  rintro _ w ⟨rfl, hw⟩
  exact ⟨_, rfl, rfl, hw⟩

end Go.Proofs.YtgfneeoponiibaaGreat
/- Package keep: loading a hard state; the laws' first test. Condition: bounds on how many files there are; the files' bytes are bytes. -/
namespace Go.Proofs.YtgfneeoponiibaaGreat
open Go Go.VC

variable {R : Cx} {Hs Rest : List HP} {w : World}

theorem BytesL.reads {l : Sl} {xss : List (List Int)} (h : Sat R (BytesL l xss :: Hs) w) (hb : xss.length ≤ 9223372036854775807) : l.len = xss.length := by
  obtain ⟨ps, hps, h⟩ := Sat.bytesL.1 h
  have := Own.len h
  rw [this, List.length_map, ← hps, List.length_map]

/-- The one row of a list of rows. -/
theorem BytesL.one {l : Sl} {x : List Int} (h : Sat R (BytesL l [x] :: Hs) w) (hx : x.length ≤ 9223372036854775807) : ∃ (s : Sl) (R' : Cx), Ro R' l [Sl.v s] ∧ Ro R' s (b8 x) ∧ Sat R' Hs w ∧ ∀ {w'}, Sat R' Hs w' → Sat R Hs w' := by
  obtain ⟨ps, hps, hq⟩ := Sat.bytesL.1 h
  clear h
  match ps, hps, hq with
  | [(s, y)], hps, hq =>
    obtain rfl : y = x := by simpa using hps
    have h0 : Sat R (Own l 25 [Sl.v s] :: Star [Own s 5 (b8 y)] :: Hs) w := hq
    obtain ⟨R1, h1, _, h2, back1⟩ := Own.lend h0 (by simp)
    have h3 : Sat R1 (Own s 5 (b8 y) :: Hs) w := Sat.star.1 h2
    obtain ⟨R2, h4, keep, h5, back2⟩ := Own.lend h3 (by simpa using hx)
    refine ⟨s, R2, keep _ _ h1, h4, h5, fun {w'} hw' => ?_⟩
    have h6 := (back2 hw').drop
    exact (back1 (Hs' := Hs) h6).drop

abbrev hZ (b : Nat) : HP := pts b (.cells [.int .i64 0, .int .i64 0].toArray 37 (0, 0))

theorem hardRet {bt : Nat} {x y e : Int} {K : Value → World → Prop} (hw : Sat R (hZ bt :: Hs) w) (hk : ∀ w, Sat R Hs w → K (.tuple #[.agg #[.int .i64 x, .int .i64 y], .int .i64 e]) w) :
    ∃ w_3 : World, ((Instr.storeAt 37 (.pointer ((some ⟨bt, 0, none⟩))) (.agg #[.int .i64 x, .int .i64 y])).run Tryz.prog w = .ok () w_3) ∧
      ∃ t7 : Int, ∃ t7_1 : Int, (At (fun w' => w' = w_3) ⟨bt, 0, none⟩ [.int .i64 t7, .int .i64 t7_1]) ∧ K (.tuple #[.agg #[.int .i64 t7, .int .i64 t7_1], .int .i64 e]) w_3 := by
  refine store_rule hw (by kernel_rfl) rfl (by simp [Value.cells]) fun w hw => ?_
  have hw := hw.re (pts bt (.cells [.int .i64 x, .int .i64 y].toArray 37 (0, 0)))
  exact ⟨x, y, At.own (eqS hw) (by exact ⟨rfl, rfl, trivial⟩), hk w hw.drop⟩

theorem hardZero {bz bt : Nat} {e : Int} {K : Value → World → Prop} (hw : Sat R (hZ bz :: hZ bt :: Hs) w) (hk : ∀ w, Sat R Hs w → K (.tuple #[.agg #[.int .i64 0, .int .i64 0], .int .i64 e]) w) :
    ∃ t15 : Int, ∃ t15_1 : Int, (At (fun w' => w' = w) ⟨bz, 0, none⟩ [.int .i64 t15, .int .i64 t15_1]) ∧
    ∃ w_3 : World, ((Instr.storeAt 37 (.pointer ((some ⟨bt, 0, none⟩))) (.agg #[.int .i64 t15, .int .i64 t15_1])).run Tryz.prog w = .ok () w_3) ∧
      ∃ t7 : Int, ∃ t7_1 : Int, (At (fun w' => w' = w_3) ⟨bt, 0, none⟩ [.int .i64 t7, .int .i64 t7_1]) ∧ K (.tuple #[.agg #[.int .i64 t7, .int .i64 t7_1], .int .i64 e]) w_3 :=
  ⟨0, 0, At.own (eqS hw) (by exact ⟨rfl, rfl, trivial⟩), hardRet hw.drop hk⟩

theorem readD_len {st : DS} (i : Inv st) (k : ByteArray) : (readD st k).1.length ≤ 16777216 := by
  unfold readD
  split
  · simp
  · split
    · simp
    · split
      · simp
      · rename_i f hf
        have := total_le hf; have := i.full; have := i.r1
        simp only; omega

theorem readHard_spec {d : Nat} {st : DS} (i : Inv st) (hb : ByOk st.fs) (hw : Sat R (DiskAt d st :: Hs) w) :
    Gets Tryz.prog 57 #[.pointer (some ⟨d, 0, none⟩), .string hardN, .func (.func 58) #[] #[]] w fun r w' => r = .tuple #[.agg #[.int .i64 (loadHardD st).1.1, .int .i64 (loadHardD st).1.2], .int .i64 (loadHardD st).2] ∧ Sat R (DiskAt d st :: Hs) w' := by
  apply call57
  suffices H : ∀ K : Value → World → Prop, (∀ w', Sat R (DiskAt d st :: Hs) w' → K (.tuple #[.agg #[.int .i64 (loadHardD st).1.1, .int .i64 (loadHardD st).1.2], .int .i64 (loadHardD st).2]) w') → B57 (some ⟨d, 0, none⟩) hardN (.func (.func 58) #[] #[]) K w from H _ fun w' hw' => ⟨rfl, hw'⟩
  intro K hK
  refine new_rule hw fun bt w hw => new_rule hw fun bz w hw => ?_
  have hw : Sat R (hZ bz :: hZ bt :: DiskAt d st :: Hs) w := hw
  refine Br.f rfl ?_
  have hw2 : Sat R (DiskAt d st :: hZ bz :: hZ bt :: Hs) w := hw.arr
  refine (read_spec (k := hardN) i hw2).use ?_
  rintro _ w ⟨t, rfl, hw⟩
  have hby := by_read hb hardN
  have hbl := readD_len i hardN
  refine ⟨t, _, rfl, ?_⟩
  refine Br.mk (fun h => ?_) (fun h => Br.mk (fun h2 => ?_) (fun h2 => ?_))
  · have he : (readD st hardN).2 = 0 := by simpa using h
    obtain ⟨x, hd, _, hx, hs⟩ := Reads.lend (Own.reads hw)
    have hsub : ∀ b o, x b = some o → (R.add x).m b = some o := fun b o hb => by
      have := hd b (by rw [hb]; simp)
      simp only [Cx.add, Heap.add, this, hb]
    have hsl : t.len = (readD st hardN).1.length := by have := hs.len; simpa using this
    refine (scan_spec hby (by omega) (hs.mono hsub) hx).use ?_
    rintro _ w ⟨l, rfl, hw⟩
    have hll := scanLen_le _ (readD st hardN).1 (Nat.le_refl _)
    have hl8 := len_scanLen (scan (readD st hardN).1)
    have hlen := BytesL.reads hw (by omega)
    refine ⟨l, _, rfl, ?_⟩
    have bad : recOf (readD st hardN).1 = none → loadHardD st = ((0, 0), 6) := fun hr => by unfold loadHardD oneD; rw [if_pos he, hr]
    have hwz : Sat (R.add x) (hZ bz :: hZ bt :: DiskAt d st :: BytesL l (scan (readD st hardN).1) :: Hs) w := hw.arr
    refine Br.ne (fun h1 => ?_) (fun h1 => ?_)
    · have hr : recOf (readD st hardN).1 = none := by
        unfold recOf
        split
        · rename_i y hy; rw [hy] at hlen; rw [hlen] at h1; exact absurd rfl h1
        · rfl
      rw [bad hr] at hK
      exact hardZero hwz fun w hw => hK w ((Reads.back hd hs hw).drop.cons fun _ h => h.drop)
    · refine Br.ne (fun h2 => ?_) (fun h2 => ?_)
      · have hr : recOf (readD st hardN).1 = none := by
          unfold recOf
          split
          · rw [if_neg]; intro h3; rw [h3, hsl] at h2; exact h2 rfl
          · rfl
        rw [bad hr] at hK
        exact hardZero hwz fun w hw => hK w ((Reads.back hd hs hw).drop.cons fun _ h => h.drop)
      · obtain ⟨y, hy⟩ : ∃ y, scan (readD st hardN).1 = [y] := by
          match hsc : scan (readD st hardN).1 with
          | [y] => exact ⟨y, rfl⟩
          | [] => rw [hsc] at hlen; rw [hlen] at h1; cases h1
          | a :: b :: c => rw [hsc] at hlen; rw [hlen] at h1; simp at h1; omega
        have hrec : recOf (readD st hardN).1 = some y := by
          unfold recOf
          rw [hy]
          simp only
          rw [hy, hsl] at h2
          rw [if_pos (by omega)]
        obtain ⟨hyl, hyb, _, _⟩ := recOf_ok hby hrec
        rw [hy] at hw
        obtain ⟨s, R2, hl2, hs2, hw, back⟩ := BytesL.one hw (by omega)
        have := Ro.idxS (S := fun w' => w' = w) (ms := [s]) hl2 (eqS hw) (k := 0) (by simp) (F := fun t => t = s) rfl
        obtain ⟨h0, h1', this⟩ := this.out
        obtain ⟨a, ha, t', hat, rfl⟩ := this.out
        refine Rng.mk h0 h1' (NilP.mk ha ⟨_, hat, CalW.mk (by kernel_rfl) ?_⟩)
        refine (decHard_spec hyb hs2 (by omega) hw).use ?_
        rintro _ w ⟨rfl, hw⟩
        refine ⟨_, _, _, rfl, ?_⟩
        have hload : loadHardD st = decHard y := by unfold loadHardD oneD; rw [if_pos he, hrec]
        rw [hload] at hK
        have hw := back hw
        have hwz : Sat (R.add x) (hZ bt :: DiskAt d st :: hZ bz :: Hs) w := hw.arr
        exact hardRet hwz fun w hw => hK w ((Reads.back hd hs hw).drop.cons fun _ h => h.drop)
  · have he : (readD st hardN).2 = 2 := by simpa using h2
    have hload : loadHardD st = ((0, 0), 0) := by unfold loadHardD oneD; rw [if_neg (by omega), if_pos he]
    have hwz : Sat R (hZ bz :: hZ bt :: DiskAt d st :: Hs) w := hw.drop.arr
    rw [hload] at hK
    exact hardZero hwz fun w hw => hK w hw
  · have h : ¬ (readD st hardN).2 = 0 := by simpa using h
    have h2 : ¬ (readD st hardN).2 = 2 := by simpa using h2
    have hload : loadHardD st = ((0, 0), (readD st hardN).2) := by unfold loadHardD oneD; rw [if_neg h, if_neg h2]
    have hwz : Sat R (hZ bz :: hZ bt :: DiskAt d st :: Hs) w := hw.drop.arr
    rw [hload] at hK
    exact hardZero hwz fun w hw => hK w hw

theorem loadHard_spec {d : Nat} {st : DS} (i : Inv st) (hb : ByOk st.fs) (hw : Sat R (DiskAt d st :: Hs) w) :
    Gets Tryz.prog 17 #[.pointer (some ⟨d, 0, none⟩)] w fun r w' => r = .tuple #[.agg #[.int .i64 (loadHardD st).1.1, .int .i64 (loadHardD st).1.2], .int .i64 (loadHardD st).2] ∧ Sat R (DiskAt d st :: Hs) w' := by
  apply call17
  suffices H : ∀ K : Value → World → Prop, (∀ w', Sat R (DiskAt d st :: Hs) w' → K (.tuple #[.agg #[.int .i64 (loadHardD st).1.1, .int .i64 (loadHardD st).1.2], .int .i64 (loadHardD st).2]) w') → B17 (some ⟨d, 0, none⟩) K w from H _ fun w' hw' => ⟨rfl, hw'⟩
  intro K hK
  refine new_rule hw fun b2 w hw => ?_
  have hw : Sat R (hZ b2 :: DiskAt d st :: Hs) w := hw
  refine (readHard_spec i hb hw.swap).use ?_
  rintro _ w ⟨rfl, hw⟩
  refine ⟨_, _, _, rfl, ?_⟩
  exact hardRet hw.swap fun w hw => hK w hw

end Go.Proofs.YtgfneeoponiibaaGreat
/- The laws' first test: a hard state, there and back. No condition. -/
namespace Go.Proofs.YtgfneeoponiibaaGreat
open Go Go.VC

variable {R : Cx} {Hs Rest : List HP} {w : World}

theorem rdNum_num {most : Int} {n : Nat} (h : n < 18446744073709551616) (hm : (n : Int) ≤ most) (rest : List Int) : rdNum most ⟨numB n ++ rest, false⟩ = ((n : Int), ⟨rest, false⟩) := by
  unfold rdNum
  rw [if_neg (by simp), parse_num h rest]
  simp only
  rw [if_pos (by simpa using hm), List.drop_left' rfl]

theorem dec_enc {t v : Int} (h : hardOk t v) : decHard (hardB t v) = ((t, v), 0) := by
  obtain ⟨⟨h1, h2⟩, h3, h4⟩ := h
  obtain ⟨tn, rfl⟩ := Int.eq_ofNat_of_zero_le h1
  obtain ⟨vn, rfl⟩ := Int.eq_ofNat_of_zero_le h3
  have e1 := rdNum_num (most := 1099511627776) (n := tn) (by omega) h2 (numB vn)
  have e2 := rdNum_num (most := 15) (n := vn) (by omega) h4 []
  rw [List.append_nil] at e2
  unfold decHard hardB
  rw [Int.toNat_natCast, Int.toNat_natCast, e1]
  simp only [e2]
  rw [if_pos (by rfl)]

theorem chg_calm {st : DS} (ha : st.arm = -1) (hf : st.fail = -1) (ho : st.off = false) : chg st true = (st, 0) := by
  obtain ⟨room, fs, fail, arm, off⟩ := st
  simp only at ha hf ho
  subst ha hf ho
  simp [chg, metN]

theorem hardN_ok : nameOk hardN = true := by decide +kernel
theorem hardX_ok : nameOk (nextOf hardN) = true := by decide +kernel
theorem hard_ne : nextOf hardN ≠ hardN := by decide +kernel

/-- Written on a new disk. -/
theorem write_new {room : Int} {name : ByteArray} {b : List Int} (hn : nameOk name = true) (hx : nameOk (nextOf name) = true) (hne : nextOf name ≠ name) (hb : b.length ≤ 65536) (hr : ((recB b).length : Int) ≤ room) :
    writeD ⟨room, [], -1, -1, false⟩ name b = (⟨room, [(name, ⟨recB b, (recB b).length⟩)], -1, -1, false⟩, 0) := by
  have h0 : nextOf name ∉ namesOf [] := by simp [namesOf]
  have h1 : appendD ⟨room, [], -1, -1, false⟩ (nextOf name) (recB b) = (⟨room, [(nextOf name, ⟨recB b, 0⟩)], -1, -1, false⟩, 0) := by
    unfold appendD doing
    rw [hx, chg_calm rfl rfl rfl]
    simp only [if_true]
    unfold appendG
    rw [if_neg (by rw [total_nil]; dsimp only; omega)]
    simp [putB, ensure, getM, updM, ba_rfl]
  have h2 : syncD ⟨room, [(nextOf name, ⟨recB b, 0⟩)], -1, -1, false⟩ (nextOf name) = (⟨room, [(nextOf name, ⟨recB b, (recB b).length⟩)], -1, -1, false⟩, 0) := by
    unfold syncD doing
    rw [hx, chg_calm rfl rfl rfl]
    simp [syncG, getM, updM, ba_rfl]
  have h3 : renameD ⟨room, [(nextOf name, ⟨recB b, (recB b).length⟩)], -1, -1, false⟩ (nextOf name) name = (⟨room, [(name, ⟨recB b, (recB b).length⟩)], -1, -1, false⟩, 0) := by
    unfold renameD doing
    rw [hx, hn]
    rw [show (true && true) = true from rfl, chg_calm rfl rfl rfl]
    simp [renameG, getM, delM, ba_rfl, ba_ne hne.symm, hne]
  unfold writeD
  rw [if_neg (by omega), if_neg h0]
  unfold writeGo
  rw [h1]
  simp only [ne_eq, not_true_eq_false, if_false, h2, h3]

theorem load_new {room : Int} {t v : Int} (h : hardOk t v) : loadHardD ⟨room, [(hardN, ⟨recB (hardB t v), (recB (hardB t v)).length⟩)], -1, -1, false⟩ = ((t, v), 0) := by
  have hl1 := numB_len (n := t.toNat) (by have := h.1; omega)
  have hl2 := numB_len (n := v.toNat) (by have := h.2; omega)
  have hr : readD ⟨room, [(hardN, ⟨recB (hardB t v), (recB (hardB t v)).length⟩)], -1, -1, false⟩ hardN = (recB (hardB t v), 0) := by
    unfold readD
    rw [hardN_ok]
    simp [getM, ba_rfl]
  unfold loadHardD oneD
  rw [hr]
  simp only [if_true]
  rw [recOf_rec (by simp [hardB]; omega) (hardB_bd h)]
  exact dec_enc h

theorem awake_spec (hw : Sat R Hs w) : Gets Tryz.prog 8 #[] w fun v w' => v = .bool true ∧ Sat R Hs w' := by
  have hok : hardOk 3 1 := ⟨⟨by omega, by omega⟩, by omega, by omega⟩
  have hl : (recB (hardB 3 1)).length ≤ 26 := by
    have hl1 := numB_len (n := 3) (by omega)
    have hl2 := numB_len (n := 1) (by omega)
    rw [recB_len, hardB, List.length_append]
    show 8 + ((numB 3).length + (numB 1).length) ≤ 26
    omega
  have hs : saveHardD ⟨1000, [], -1, -1, false⟩ 3 1 = (⟨1000, [(hardN, ⟨recB (hardB 3 1), (recB (hardB 3 1)).length⟩)], -1, -1, false⟩, 0) := by
    unfold saveHardD
    rw [if_pos hok]
    exact write_new hardN_ok hardX_ok hard_ne (by rw [recB_len] at hl; omega) (by omega)
  have hl2 := load_new (room := 1000) hok
  have i0 := inv_new (room := 1000) (by omega) (by omega)
  have i1 : Inv (saveHardD ⟨1000, [], -1, -1, false⟩ 3 1).1 := by unfold saveHardD; rw [if_pos hok]; exact write_inv i0 _ _
  have b1 : ByOk (saveHardD ⟨1000, [], -1, -1, false⟩ 3 1).1.fs := by unfold saveHardD; rw [if_pos hok]; exact by_write (fun _ h => by cases h) _ (hardB_bd hok)
  rw [hs] at i1 b1
  apply call8
  refine (new_ok (room := 1000) (by omega) (by omega) hw).use ?_
  rintro _ w ⟨d, rfl, hw⟩
  refine ⟨_, _, rfl, Sat R (DiskAt d ⟨1000, [], -1, -1, false⟩ :: Hs), Br.ne (fun h => absurd rfl h) (fun _ => Br.f rfl hw), ?_⟩
  clear hw
  intro _ w hw
  refine (saveHard_spec (t := 3) (v := 1) i0 (by simp) hw).use ?_
  rintro _ w ⟨rfl, hw⟩
  rw [hs] at hw ⊢
  refine ⟨_, rfl, (loadHard_spec i1 b1 hw).use ?_⟩
  rintro _ w ⟨rfl, hw⟩
  rw [hl2]
  refine ⟨3, 1, 0, rfl, ?_⟩
  refine new_rule hw fun bh w hw => ?_
  have hw : Sat R (hZ bh :: DiskAt d ⟨1000, [(hardN, ⟨recB (hardB 3 1), (recB (hardB 3 1)).length⟩)], -1, -1, false⟩ :: Hs) w := hw
  refine store_rule hw (by kernel_rfl) rfl (by simp [Value.cells]) fun w hw => ?_
  have hw := hw.re (pts bh (.cells [.int .i64 3, .int .i64 1].toArray 37 (0, 0)))
  refine Br.t rfl (Br.t rfl ⟨3, 1, At.own (eqS hw) (by exact ⟨rfl, rfl, trivial⟩), true, fun w' _ => by kernel_rfl, rfl, hw.drop.drop⟩)

end Go.Proofs.YtgfneeoponiibaaGreat
/- Package keep: which snapshots may be. Condition: none. -/
namespace Go.Proofs.YtgfneeoponiibaaGreat
open Go Go.VC

variable {R : Cx} {Hs Rest : List HP} {w : World}

/-! ### Lists of numbers -/
theorem idxI_spec {s : Sl} {l : List Int} {k : Int} (hs : RoI R s l) (hw : Sat R Hs w) :
    Gets Tryz.prog 107 #[.slice s.a s.len s.cap, .int .i64 k] w fun v w' => (∃ n : Int, v = .int .i64 n ∧ (k ∈ l ↔ 0 ≤ n)) ∧ Sat R Hs w' := by
  have hlen := hs.len
  have hbd := hs.bound
  apply call107
  refine ⟨fun i w => ∃ j : Nat, i = j ∧ j ≤ l.length ∧ k ∉ l.take j ∧ Sat R Hs w, fun i _ => l.length - i.toNat, ⟨0, rfl, by omega, by simp, hw⟩, ?_⟩
  clear hw
  rintro _ _ w ⟨j, rfl, hj, hn, hw⟩
  refine Br.d (fun h => ?_) (fun h => ?_)
  · have hj2 : j < l.length := by omega
    refine hs.idx (eqS hw) hj2 ?_
    refine Br.e (fun h => ⟨⟨j, rfl, ⟨fun _ => by omega, fun _ => by rw [h]; exact List.getElem_mem _⟩⟩, hw⟩) (fun h => ?_)
    rw [wrap64 (by omega) (by omega)]
    refine ⟨⟨j + 1, by omega, by omega, ?_, hw⟩, by dsimp only; omega⟩
    rw [List.take_add_one, List.getElem?_eq_getElem hj2]
    simp only [Option.toList_some, List.mem_append, List.mem_singleton, not_or]
    exact ⟨hn, h⟩
  · refine ⟨⟨-1, rfl, ⟨fun h2 => ?_, fun h2 => by omega⟩⟩, hw⟩
    rw [List.take_of_length_le (by omega)] at hn
    exact absurd h2 hn

theorem contI_spec {s : Sl} {l : List Int} {k : Int} (hs : RoI R s l) (hw : Sat R Hs w) :
    Gets Tryz.prog 72 #[.slice s.a s.len s.cap, .int .i64 k] w fun v w' => v = .bool (decide (k ∈ l)) ∧ Sat R Hs w' := by
  apply call72
  refine (idxI_spec hs hw).use ?_
  rintro _ w ⟨⟨n, rfl, h⟩, hw⟩
  refine ⟨n, rfl, ?_, hw⟩
  congr 1
  rw [decide_eq_decide]
  exact h.symm

theorem idxF_spec {s : Sl} {l : List Int} {f : Value} {p : Int → Bool} (hs : RoI R s l) (hf : ∀ x w, Sat R Hs w → CalW Tryz.prog cl f [.int .i64 x] w fun e w' => e = .returned (.bool (p x)) ∧ Sat R Hs w') (hw : Sat R Hs w) :
    Gets Tryz.prog 108 #[.slice s.a s.len s.cap, f] w fun v w' => (∃ n : Int, v = .int .i64 n ∧ (l.any p = true ↔ 0 ≤ n)) ∧ Sat R Hs w' := by
  have hlen := hs.len
  have hbd := hs.bound
  apply call108
  refine ⟨fun i w => ∃ j : Nat, i = j ∧ j ≤ l.length ∧ (l.take j).any p = false ∧ Sat R Hs w, fun i _ => l.length - i.toNat, ⟨0, rfl, by omega, by simp, hw⟩, ?_⟩
  clear hw
  rintro _ _ w ⟨j, rfl, hj, hn, hw⟩
  refine Br.d (fun h => ?_) (fun h => ?_)
  · have hj2 : j < l.length := by omega
    refine hs.idx (eqS hw) hj2 ?_
    refine (hf l[j] _ hw).mono ?_
    rintro _ w ⟨rfl, hw⟩
    refine ⟨_, rfl, Br.mk (fun h => ⟨⟨j, rfl, ⟨fun _ => by omega, fun _ => List.any_eq_true.2 ⟨_, List.getElem_mem _, h⟩⟩⟩, hw⟩) (fun h => ?_)⟩
    rw [wrap64 (by omega) (by omega)]
    refine ⟨⟨j + 1, by omega, by omega, ?_, hw⟩, by dsimp only; omega⟩
    rw [List.take_add_one, List.getElem?_eq_getElem hj2, List.any_append, hn]
    simp [h]
  · refine ⟨⟨-1, rfl, ⟨fun h2 => ?_, fun h2 => by omega⟩⟩, hw⟩
    rw [List.take_of_length_le (by omega)] at hn
    rw [hn] at h2; cases h2

theorem contF_spec {s : Sl} {l : List Int} {f : Value} {p : Int → Bool} (hs : RoI R s l) (hf : ∀ x w, Sat R Hs w → CalW Tryz.prog cl f [.int .i64 x] w fun e w' => e = .returned (.bool (p x)) ∧ Sat R Hs w') (hw : Sat R Hs w) :
    Gets Tryz.prog 74 #[.slice s.a s.len s.cap, f] w fun v w' => v = .bool (l.any p) ∧ Sat R Hs w' := by
  apply call74
  refine (idxF_spec hs hf hw).use ?_
  rintro _ w ⟨⟨n, rfl, h⟩, hw⟩
  refine ⟨n, rfl, ?_, hw⟩
  congr 1
  rw [Bool.eq_iff_iff, decide_eq_true_iff]
  exact h.symm

/-! ### Groups -/
def risesF : Int → List Int → Bool
  | _, [] => true
  | last, n :: l => if n ≤ last then false else if n > 15 then false else risesF n l
theorem risesF_drop {last : Int} {l : List Int} {k : Nat} (hk : k < l.length) : risesF last (l.drop k) = if l[k] ≤ last then false else if l[k] > 15 then false else risesF l[k] (l.drop (k + 1)) := by
  rw [List.drop_eq_getElem_cons hk]; rfl
theorem risesF_bd : ∀ {l : List Int} {last : Int}, risesF last l = true → ∀ x ∈ l, last < x ∧ x ≤ 15
  | [], _, _ => by simp
  | n :: l, last, h => by
    simp only [risesF] at h
    split at h
    · cases h
    · split at h
      · cases h
      · intro x hx
        rcases List.mem_cons.1 hx with rfl | hx
        · omega
        · have := risesF_bd h x hx; omega
theorem risesF_len : ∀ {l : List Int} {last : Int}, last ≤ 15 → risesF last l = true → (l.length : Int) ≤ 15 - last
  | [], _, h0, _ => by simp; omega
  | n :: l, last, h0, h => by
    simp only [risesF] at h
    split at h
    · cases h
    · split at h
      · cases h
      · have := risesF_len (l := l) (last := n) (by omega) h
        rw [List.length_cons]; omega

theorem rises_spec {s : Sl} {l : List Int} (hs : RoI R s l) (hw : Sat R Hs w) :
    Gets Tryz.prog 73 #[.slice s.a s.len s.cap] w fun v w' => v = .bool (risesF 0 l) ∧ Sat R Hs w' := by
  have hlen := hs.len
  have hbd := hs.bound
  apply call73
  refine ⟨fun last i w => ∃ j : Nat, i = j ∧ j ≤ l.length ∧ risesF last (l.drop j) = risesF 0 l ∧ Sat R Hs w, fun _ i _ => l.length - i.toNat, ⟨0, rfl, by omega, rfl, hw⟩, ?_⟩
  clear hw
  rintro _ last _ w ⟨j, rfl, hj, hn, hw⟩
  refine Br.d (fun h => ?_) (fun h => ?_)
  · have hj2 : j < l.length := by omega
    rw [risesF_drop hj2] at hn
    refine hs.idx (eqS hw) hj2 ?_
    refine Br.d (fun h => ⟨?_, hw⟩) (fun h => Br.d (fun h2 => ⟨?_, hw⟩) (fun h2 => ?_))
    · rw [if_pos h] at hn; rw [← hn]
    · rw [if_neg h, if_pos h2] at hn; rw [← hn]
    · rw [if_neg h, if_neg h2] at hn
      rw [wrap64 (by omega) (by omega)]
      exact ⟨⟨j + 1, by omega, by omega, hn, hw⟩, by dsimp only; omega⟩
  · rw [List.drop_eq_nil_of_le (by omega)] at hn
    exact ⟨by rw [← hn]; rfl, hw⟩

def grpOk (v l : List Int) : Bool := risesF 0 v && risesF 0 l && decide (0 < v.length) && !(v.any fun n => decide (n ∈ l))
structure SnapM where
  idx : Int
  term : Int
  vot : List Int
  lrn : List Int
  data : List Int
def snapOk (i t : Int) (v l : List Int) (n : Nat) : Bool := decide (0 ≤ i ∧ i ≤ 1099511627776) && decide (0 ≤ t ∧ t ≤ 1099511627776) && grpOk v l && decide (n ≤ 60000)
abbrev SnapM.ok (x : SnapM) : Bool := snapOk x.idx x.term x.vot x.lrn x.data.length
abbrev snapVals (i t : Int) (sv sl sd : Sl) : List Value := [.int .i64 i, .int .i64 t, .slice sv.a sv.len sv.cap, .slice sl.a sl.len sl.cap, .slice sd.a sd.len sd.cap]
abbrev snapCells (i t : Int) (sv sl sd : Sl) : Obj := .cells (snapVals i t sv sl sd).toArray 27 (0, 0)

theorem right1_spec {p : Nat} {i t : Int} {sv sl sd : Sl} {l : List Int} {x : Int} (hl : RoI R sl l) (hw : Sat R (pts p (snapCells i t sv sl sd) :: Hs) w) :
    Gets Tryz.prog 71 #[.int .i64 x, .pointer (some ⟨p, 0, none⟩)] w fun v w' => v = .bool (decide (x ∈ l)) ∧ Sat R (pts p (snapCells i t sv sl sd) :: Hs) w' := by
  apply call71
  refine NilP.mk rfl ⟨sl, At.own (eqS hw) (by exact ⟨rfl, trivial⟩), ?_⟩
  refine (contI_spec hl hw).use ?_
  rintro _ w ⟨rfl, hw⟩
  exact ⟨_, rfl, rfl, hw⟩

theorem right_spec {i t : Int} {sv sl sd : Sl} {v l : List Int} (hv : RoI R sv v) (hl : RoI R sl l) (hw : Sat R Hs w) :
    Gets Tryz.prog 37 #[.agg #[.int .i64 i, .int .i64 t, .slice sv.a sv.len sv.cap, .slice sl.a sl.len sl.cap, .slice sd.a sd.len sd.cap]] w fun r w' => r = .bool (snapOk i t v l sd.len) ∧ Sat R Hs w' := by
  have hvl := hv.len
  apply call37
  refine new_rule hw fun p w hw => ?_
  have hw : Sat R (pts p (snapCells i t sv sl sd) :: Hs) w := hw
  refine ⟨fun g w => g = grpOk v l ∧ Sat R (pts p (snapCells i t sv sl sd) :: Hs) w, ?_, ?_⟩
  · refine ⟨sv, At.own (eqS hw) (by exact ⟨rfl, trivial⟩), ?_⟩
    refine (rises_spec hv hw).use ?_
    rintro _ w ⟨rfl, hw⟩
    refine ⟨_, rfl, Br.mk (fun h1 => ?_) (fun h1 => ⟨by unfold grpOk; rw [h1]; rfl, hw⟩)⟩
    refine ⟨sl, At.own (eqS hw) (by exact ⟨rfl, trivial⟩), ?_⟩
    refine (rises_spec hl hw).use ?_
    rintro _ w ⟨rfl, hw⟩
    refine ⟨_, rfl, Br.mk (fun h2 => ?_) (fun h2 => ⟨by unfold grpOk; rw [h1, h2]; rfl, hw⟩)⟩
    refine ⟨sv, At.own (eqS hw) (by exact ⟨rfl, trivial⟩), Br.d (fun h3 => ?_) (fun h3 => ⟨?_, hw⟩)⟩
    · refine ⟨sv, At.own (eqS hw) (by exact ⟨rfl, trivial⟩), ?_⟩
      refine (contF_spec (p := fun n => decide (n ∈ l)) hv (fun x w hw => CalW.mk (by kernel_rfl) ((right1_spec hl hw).use fun v w' h => ⟨by rw [h.1], h.2⟩)) hw).use ?_
      rintro _ w ⟨rfl, hw⟩
      refine ⟨_, rfl, ?_, hw⟩
      unfold grpOk
      rw [h1, h2, decide_eq_true (show 0 < v.length by omega)]; rfl
    · unfold grpOk
      rw [decide_eq_false (show ¬ 0 < v.length by omega), Bool.and_false]; rfl
  clear hw
  rintro _ _ w ⟨rfl, hw⟩
  refine ⟨i, At.own (eqS hw) (by exact ⟨rfl, trivial⟩), ?_⟩
  refine (within_spec _ _ hw).use ?_
  rintro _ w ⟨rfl, hw⟩
  refine ⟨_, rfl, Br.mk (fun h1 => ?_) (fun h1 => ⟨by unfold snapOk; rw [h1]; rfl, hw.drop⟩)⟩
  refine ⟨t, At.own (eqS hw) (by exact ⟨rfl, trivial⟩), ?_⟩
  refine (within_spec _ _ hw).use ?_
  rintro _ w ⟨rfl, hw⟩
  refine ⟨_, rfl, Br.mk (fun h2 => Br.mk (fun h3 => ?_) (fun h3 => ⟨by unfold snapOk; rw [h3, Bool.and_false]; rfl, hw.drop⟩)) (fun h2 => ⟨by unfold snapOk; rw [h2, Bool.and_false]; rfl, hw.drop⟩)⟩
  refine ⟨sd, At.own (eqS hw) (by exact ⟨rfl, trivial⟩), ?_, hw.drop⟩
  unfold snapOk
  rw [h1, h2, h3]
  simp only [Bool.true_and]
  congr 1
  rw [decide_eq_decide]; omega

end Go.Proofs.YtgfneeoponiibaaGreat
/- Package keep: a snapshot's bytes. Condition: bounds on lengths. -/
namespace Go.Proofs.YtgfneeoponiibaaGreat
open Go Go.VC

variable {R : Cx} {Hs Rest : List HP} {w : World}

def numsB (l : List Int) : List Int := (l.map fun x => numB x.toNat).flatten
theorem numsB_take {l : List Int} {k : Nat} (hk : k < l.length) : numsB (l.take (k + 1)) = numsB (l.take k) ++ numB l[k].toNat := by
  unfold numsB
  rw [List.take_add_one, List.getElem?_eq_getElem hk, List.map_append, List.flatten_append]
  simp only [Option.toList_some, List.map_cons, List.map_nil, List.flatten_cons, List.flatten_nil, List.append_nil]
theorem numsB_len : ∀ {l : List Int}, (∀ x ∈ l, 0 ≤ x ∧ x < 18446744073709551616) → (numsB l).length ≤ 9 * l.length
  | [], _ => by simp [numsB]
  | x :: l, h => by
    have h1 := h x (List.mem_cons_self ..)
    have := numB_len (n := x.toNat) (by omega)
    have h2 := numsB_len (l := l) fun y hy => h y (List.mem_cons_of_mem _ hy)
    unfold numsB at h2 ⊢
    rw [List.map_cons, List.flatten_cons, List.length_append, List.length_cons]
    omega
theorem numsB_bd : ∀ {l : List Int}, (∀ x ∈ l, 0 ≤ x ∧ x < 18446744073709551616) → ∀ y ∈ numsB l, 0 ≤ y ∧ y < 256
  | [], _ => by simp [numsB]
  | x :: l, h => fun y hy => by
    have h1 := h x (List.mem_cons_self ..)
    unfold numsB at hy
    rw [List.map_cons, List.flatten_cons, List.mem_append] at hy
    rcases hy with hy | hy
    · exact numB_bd (n := x.toNat) (by omega) y hy
    · exact numsB_bd (fun y hy => h y (List.mem_cons_of_mem _ hy)) y hy
theorem numsB_app (a b : List Int) : numsB (a ++ b) = numsB a ++ numsB b := by simp [numsB]

/-- A block with bytes of one's own. -/
def OutB (p : Nat) (bs : List Int) : HP := exs fun s : Sl => Star [lp p s, Own s 5 (b8 bs)]
theorem Sat.outB {p : Nat} {bs : List Int} : Sat R (OutB p bs :: Hs) w ↔ ∃ s : Sl, Sat R (lp p s :: Own s 5 (b8 bs) :: Hs) w := by
  unfold OutB
  rw [Sat.exs]
  exact ⟨fun ⟨s, h⟩ => ⟨s, Sat.star.1 h⟩, fun ⟨s, h⟩ => ⟨s, Sat.star.2 h⟩⟩

/-- 'for each number: its code, behind out': the numbers, and how much there is. -/
theorem put_law {f : FuncId} {p : Nat} {s : Sl} {xs bs : List Int} (hxs : ∀ x ∈ xs, 0 ≤ x ∧ x < 9223372036854775808) (hl : bs.length + 9 * xs.length ≤ 1099511627776) (hs : RoI R s xs) (hw : Sat R (OutB p bs :: Hs) w)
    (hf : ∀ {K : Value → World → Prop} {w : World}, B38 s (some ⟨p, 0, none⟩) K w → Gets Tryz.prog f #[.slice s.a s.len s.cap, .pointer (some ⟨p, 0, none⟩)] w K) :
    Gets Tryz.prog f #[.slice s.a s.len s.cap, .pointer (some ⟨p, 0, none⟩)] w fun v w' => v = .tuple #[] ∧ Sat R (OutB p (bs ++ numsB xs) :: Hs) w' := by
  have hlen := hs.len
  apply hf
  refine ⟨fun i w => ∃ k : Nat, i = k ∧ k ≤ xs.length ∧ Sat R (OutB p (bs ++ numsB (xs.take k)) :: Hs) w, fun i _ => xs.length - i.toNat, ⟨0, rfl, by omega, by simpa [numsB] using hw⟩, ?_⟩
  clear hw
  rintro _ _ w ⟨k, rfl, hk, hw⟩
  refine Br.d (fun h => ?_) (fun h => ?_)
  · have hkx : k < xs.length := by omega
    have hx := hxs xs[k] (List.getElem_mem _)
    have hxt : ∀ x ∈ xs.take k, 0 ≤ x ∧ x < 18446744073709551616 := fun x hx => by have := hxs x (List.mem_of_mem_take hx); omega
    have hnl := numsB_len hxt
    rw [List.length_take] at hnl
    refine hs.idx (eqS hw) hkx ?_
    obtain ⟨s0, hw⟩ := Sat.outB.1 hw
    refine drw_ruleT hw fun w hw => ?_
    refine NilP.mk rfl ⟨s0, At.own selfS (by exact ⟨rfl, trivial⟩), ?_⟩
    obtain ⟨n, hn⟩ := Int.eq_ofNat_of_zero_le hx.1
    rw [hn, wrapU64 (by omega) (by omega)]
    refine (number_spec (by omega) hw).use ?_
    rintro _ w ⟨t, rfl, hw⟩
    refine ⟨t, rfl, hw.absorb, ?_⟩
    have hw : Sat R (Own s0 5 (b8 (bs ++ numsB (xs.take k))) :: Own t 5 (b8 (numB n)) :: lp p s0 :: VC.tru :: Hs) w := hw.arr
    have hnb := numB_len (n := n) (by omega)
    refine appendOO elB8 (s := s0) (n := 1099511627790) Tryz.underlying25 hw (by rw [List.length_append]; omega) (by omega) (by omega) fun s2 w hw => ?_
    have hw : Sat R (lp p s0 :: Own s2 5 (b8 (bs ++ numsB (xs.take k) ++ numB n)) :: Hs) w := by
      have h : Sat R (Own t 5 (b8 (numB n)) :: VC.tru :: lp p s0 :: Own s2 5 (b8 (bs ++ numsB (xs.take k) ++ numB n)) :: Hs) w := hw.arr
      exact h.drop.drop
    refine store_rule hw (by kernel_rfl) rfl (by simp [Value.cells]) fun w hw => ?_
    have hw := hw.re (lp p s2)
    rw [wrap64 (by omega) (by omega)]
    refine ⟨⟨k + 1, by omega, by omega, Sat.outB.2 ⟨s2, ?_⟩⟩, by dsimp only; omega⟩
    rw [numsB_take hkx, hn, Int.toNat_natCast, ← List.append_assoc]
    exact hw
  · have : k = xs.length := by omega
    subst this
    rw [List.take_length] at hw
    exact ⟨rfl, hw⟩

theorem eput_spec {p : Nat} {s : Sl} {xs bs : List Int} (hxs : ∀ x ∈ xs, 0 ≤ x ∧ x < 9223372036854775808) (hl : bs.length + 9 * xs.length ≤ 1099511627776) (hs : RoI R s xs) (hw : Sat R (OutB p bs :: Hs) w) :
    Gets Tryz.prog 38 #[.slice s.a s.len s.cap, .pointer (some ⟨p, 0, none⟩)] w fun v w' => v = .tuple #[] ∧ Sat R (OutB p (bs ++ numsB xs) :: Hs) w' :=
  put_law hxs hl hs hw fun h => call38 _ _ _ _ h

def snapB (x : SnapM) : List Int := numsB [x.idx, x.term, x.vot.length] ++ numsB x.vot ++ numsB [(x.lrn.length : Int)] ++ numsB x.lrn ++ textB x.data
def encSnap (x : SnapM) : Option (List Int) := if x.ok = true then some (snapB x) else none

theorem snapOk_out {x : SnapM} (h : x.ok = true) : (0 ≤ x.idx ∧ x.idx ≤ 1099511627776) ∧ (0 ≤ x.term ∧ x.term ≤ 1099511627776) ∧ (∀ n ∈ x.vot, 0 ≤ n ∧ n ≤ 15) ∧ (∀ n ∈ x.lrn, 0 ≤ n ∧ n ≤ 15) ∧ x.vot.length ≤ 15 ∧ x.lrn.length ≤ 15 ∧ x.data.length ≤ 60000 ∧ grpOk x.vot x.lrn = true := by
  unfold SnapM.ok snapOk at h
  simp only [Bool.and_eq_true, decide_eq_true_eq] at h
  obtain ⟨⟨⟨h1, h2⟩, h3⟩, h4⟩ := h
  have hg := h3
  unfold grpOk at h3
  simp only [Bool.and_eq_true] at h3
  obtain ⟨⟨⟨h5, h6⟩, _⟩, _⟩ := h3
  have l1 := risesF_len (by omega) h5
  have l2 := risesF_len (by omega) h6
  exact ⟨h1, h2, fun n hn => by have := risesF_bd h5 n hn; omega, fun n hn => by have := risesF_bd h6 n hn; omega, by omega, by omega, h4, hg⟩

theorem enc_spec {x : SnapM} {sv sl sd : Sl} (hv : RoI R sv x.vot) (hl : RoI R sl x.lrn) (hd : Ro R sd (b8 x.data)) (hw : Sat R Hs w) :
    Gets Tryz.prog 9 #[.agg #[.int .i64 x.idx, .int .i64 x.term, .slice sv.a sv.len sv.cap, .slice sl.a sl.len sl.cap, .slice sd.a sd.len sd.cap]] w fun r w' =>
      (x.ok = false ∧ r = .tuple #[.slice none 0 0, .int .i64 1] ∧ Sat R Hs w') ∨
      (x.ok = true ∧ ∃ t : Sl, r = .tuple #[.slice t.a t.len t.cap, .int .i64 0] ∧ Sat R (Own t 5 (b8 (snapB x)) :: Hs) w') := by
  have hdl : sd.len = x.data.length := by have := hd.len; simpa using this
  have hvl := hv.len
  have hll := hl.len
  apply call9
  refine new_rule hw fun p w hw => ?_
  have hw : Sat R (pts p (snapCells x.idx x.term sv sl sd) :: Hs) w := hw
  refine ⟨x.idx, x.term, sv, sl, sd, At.own (eqS hw) (by exact ⟨rfl, rfl, rfl, rfl, rfl, trivial⟩), ?_⟩
  refine (right_spec (sd := sd) hv hl hw).use ?_
  rintro _ w ⟨rfl, hw⟩
  refine ⟨_, rfl, ?_⟩
  rw [hdl]
  refine Br.nb (fun h => .inl ⟨h, rfl, hw.drop⟩) (fun hok => ?_)
  obtain ⟨h1, h2, h3, h4, h5, h6, h7, _⟩ := snapOk_out (x := x) hok
  refine new_rule hw fun po w hw => ?_
  have hw : Sat R (pts p (snapCells x.idx x.term sv sl sd) :: OutB po [] :: Hs) w := by
    have hw : Sat R (lp po ⟨none, 0, 0⟩ :: pts p (snapCells x.idx x.term sv sl sd) :: Hs) w := hw
    exact hw.swap.cons fun _ h => Sat.outB.2 ⟨⟨none, 0, 0⟩, h.cons fun _ h => Own.nil h⟩
  refine ⟨x.idx, At.own (eqS hw) (by exact ⟨rfl, trivial⟩), x.term, At.own (eqS hw) (by exact ⟨rfl, trivial⟩), sv, At.own (eqS hw) (by exact ⟨rfl, trivial⟩), ?_⟩
  rw [hvl]
  refine new_rule hw fun q w hw => ?_
  have hw : Sat R (Own ⟨some ⟨q, 0, none⟩, 3, 3⟩ 3 ([x.idx, x.term, (x.vot.length : Int)].map (Value.int .i64)) :: OutB po [] :: pts p (snapCells x.idx x.term sv sl sd) :: Hs) w := (own_lit hw).cons fun _ h => h.swap
  obtain ⟨R1, hr1, keep1, hw, back1⟩ := Own.lendI hw (by simp)
  refine (eput_spec (s := ⟨some ⟨q, 0, none⟩, 3, 3⟩) (by intro y hy; simp at hy; omega) (by simp) hr1 hw).use ?_
  rintro _ w ⟨rfl, hw⟩
  have hw := (back1 hw).drop.swap
  refine ⟨rfl, sv, At.own (eqS hw) (by exact ⟨rfl, trivial⟩), ?_⟩
  have hw := hw.swap
  have nb : ∀ l : List Int, (∀ n ∈ l, 0 ≤ n ∧ n ≤ 15) → ∀ x ∈ l, 0 ≤ x ∧ x < 9223372036854775808 := fun l h x hx => by have := h x hx; omega
  have nc : ∀ l : List Int, (∀ n ∈ l, 0 ≤ n ∧ n ≤ 15) → ∀ x ∈ l, 0 ≤ x ∧ x < 18446744073709551616 := fun l h x hx => by have := h x hx; omega
  have l3 : (numsB [x.idx, x.term, (x.vot.length : Int)]).length ≤ 27 := numsB_len (by intro y hy; simp at hy; omega)
  have lv := numsB_len (nc _ h3)
  have l1 : (numsB [(x.lrn.length : Int)]).length ≤ 9 := numsB_len (by intro y hy; simp at hy; omega)
  have ll := numsB_len (nc _ h4)
  refine (eput_spec (nb _ h3) (by rw [List.nil_append]; omega) hv hw).use ?_
  rintro _ w ⟨rfl, hw⟩
  rw [List.nil_append] at hw
  have hw := hw.swap
  refine ⟨rfl, sl, At.own (eqS hw) (by exact ⟨rfl, trivial⟩), ?_⟩
  rw [hll]
  refine new_rule hw fun q w hw => ?_
  have hw : Sat R (Own ⟨some ⟨q, 0, none⟩, 1, 1⟩ 3 ([(x.lrn.length : Int)].map (Value.int .i64)) :: OutB po (numsB [x.idx, x.term, (x.vot.length : Int)] ++ numsB x.vot) :: pts p (snapCells x.idx x.term sv sl sd) :: Hs) w := (own_lit hw).cons fun _ h => h.swap
  obtain ⟨R1, hr1, keep1, hw, back1⟩ := Own.lendI hw (by simp)
  refine (eput_spec (s := ⟨some ⟨q, 0, none⟩, 1, 1⟩) (by intro y hy; simp at hy; omega) (by rw [List.length_append, List.length_singleton]; omega) hr1 hw).use ?_
  rintro _ w ⟨rfl, hw⟩
  have hw := (back1 hw).drop.swap
  refine ⟨rfl, sl, At.own (eqS hw) (by exact ⟨rfl, trivial⟩), ?_⟩
  have hw := hw.swap
  refine (eput_spec (nb _ h4) (by rw [List.length_append, List.length_append]; omega) hl hw).use ?_
  rintro _ w ⟨rfl, hw⟩
  refine ⟨rfl, ?_⟩
  obtain ⟨s0, hw⟩ := Sat.outB.1 hw
  have hw : Sat R (lp po s0 :: pts p (snapCells x.idx x.term sv sl sd) :: Own s0 5 (b8 (numsB [x.idx, x.term, (x.vot.length : Int)] ++ numsB x.vot ++ numsB [(x.lrn.length : Int)] ++ numsB x.lrn)) :: Hs) w := hw.arr
  refine drw_rule' (Sat R [lp po s0, pts p (snapCells x.idx x.term sv sl sd), VC.tru]) hw (fun w hw => hw.cons fun _ h => h.restTru) fun w hw => ?_
  refine ⟨s0, At.own selfS (by exact ⟨rfl, trivial⟩), sd, At.own selfS (by exact ⟨rfl, trivial⟩), ?_⟩
  refine (ftext_spec hd (by omega) hw).use ?_
  rintro _ w ⟨t, rfl, hw⟩
  have hw : Sat R (lp po s0 :: pts p (snapCells x.idx x.term sv sl sd) :: Own s0 5 (b8 (numsB [x.idx, x.term, (x.vot.length : Int)] ++ numsB x.vot ++ numsB [(x.lrn.length : Int)] ++ numsB x.lrn)) :: Own t 5 (b8 (textB x.data)) :: Hs) w := hw.arr
  refine ⟨t, rfl, hw.cons fun _ h => h.restTru, ?_⟩
  have hw : Sat R (Own s0 5 (b8 (numsB [x.idx, x.term, (x.vot.length : Int)] ++ numsB x.vot ++ numsB [(x.lrn.length : Int)] ++ numsB x.lrn)) :: Own t 5 (b8 (textB x.data)) :: lp po s0 :: pts p (snapCells x.idx x.term sv sl sd) :: Hs) w := hw.arr
  have lt : (textB x.data).length ≤ 60009 := by unfold textB; rw [List.length_append]; have := numB_len (n := x.data.length) (by omega); omega
  refine appendOO elB8 (s := s0) (n := 70000) Tryz.underlying25 hw (by rw [List.length_append, List.length_append, List.length_append]; omega) (by omega) (by omega) fun s2 w hw => ?_
  have hw : Sat R (Own s2 5 (b8 (snapB x)) :: Own t 5 (b8 (textB x.data)) :: lp po s0 :: pts p (snapCells x.idx x.term sv sl sd) :: Hs) w := hw
  have hw : Sat R (lp po s0 :: pts p (snapCells x.idx x.term sv sl sd) :: Own t 5 (b8 (textB x.data)) :: Own s2 5 (b8 (snapB x)) :: Hs) w := hw.arr
  exact ⟨hw.cons fun _ h => h.restTru, .inr ⟨hok, s2, rfl, hw.drop.drop.drop⟩⟩

theorem snapB_len {x : SnapM} (h : x.ok = true) : (snapB x).length ≤ 60400 := by
  obtain ⟨h1, h2, h3, h4, h5, h6, h7, _⟩ := snapOk_out h
  have nc : ∀ l : List Int, (∀ n ∈ l, 0 ≤ n ∧ n ≤ 15) → ∀ x ∈ l, 0 ≤ x ∧ x < 18446744073709551616 := fun l h x hx => by have := h x hx; omega
  have l3 : (numsB [x.idx, x.term, (x.vot.length : Int)]).length ≤ 27 := numsB_len (by intro y hy; simp at hy; omega)
  have lv := numsB_len (nc _ h3)
  have l1 : (numsB [(x.lrn.length : Int)]).length ≤ 9 := numsB_len (by intro y hy; simp at hy; omega)
  have ll := numsB_len (nc _ h4)
  have lt := numB_len (n := x.data.length) (by omega)
  unfold snapB textB
  simp only [List.length_append]
  omega
theorem snapB_bd {x : SnapM} (h : x.ok = true) (hd : ∀ y ∈ x.data, 0 ≤ y ∧ y < 256) : ∀ y ∈ snapB x, 0 ≤ y ∧ y < 256 := by
  obtain ⟨h1, h2, h3, h4, h5, h6, h7, _⟩ := snapOk_out h
  have nc : ∀ l : List Int, (∀ n ∈ l, 0 ≤ n ∧ n ≤ 15) → ∀ x ∈ l, 0 ≤ x ∧ x < 18446744073709551616 := fun l h x hx => by have := h x hx; omega
  intro y hy
  unfold snapB textB at hy
  simp only [List.mem_append] at hy
  rcases hy with (((hy | hy) | hy) | hy) | hy | hy
  · exact numsB_bd (by intro y hy; simp at hy; omega) y hy
  · exact numsB_bd (nc _ h3) y hy
  · exact numsB_bd (by intro y hy; simp at hy; omega) y hy
  · exact numsB_bd (nc _ h4) y hy
  · exact numB_bd (by omega) y hy
  · exact hd y hy

end Go.Proofs.YtgfneeoponiibaaGreat
/- Package keep: a snapshot out of bytes. Condition: bounds on lengths. -/
namespace Go.Proofs.YtgfneeoponiibaaGreat
open Go Go.VC

variable {R : Cx} {Hs Rest : List HP} {w : World}

def rdMany : Nat → Int → Rd → List Int × Rd
  | 0, _, r => ([], r)
  | k + 1, most, r => ((rdNum most r).1 :: (rdMany k most (rdNum most r).2).1, (rdMany k most (rdNum most r).2).2)
theorem rdMany_snoc : ∀ (k : Nat) (most : Int) (r : Rd), rdMany (k + 1) most r = ((rdMany k most r).1 ++ [(rdNum most (rdMany k most r).2).1], (rdNum most (rdMany k most r).2).2)
  | 0, _, _ => rfl
  | k + 1, most, r => by
    have := rdMany_snoc k most (rdNum most r).2
    show ((rdNum most r).1 :: (rdMany (k + 1) most (rdNum most r).2).1, (rdMany (k + 1) most (rdNum most r).2).2) = _
    rw [this]; rfl
theorem rdMany_len : ∀ (k : Nat) (most : Int) (r : Rd), (rdMany k most r).1.length = k
  | 0, _, _ => rfl
  | k + 1, most, r => by show (_ :: (rdMany k most (rdNum most r).2).1).length = _; rw [List.length_cons, rdMany_len k]
theorem rdMany_bd : ∀ (k : Nat) (most : Int) {r : Rd}, (∀ x ∈ r.bs, 0 ≤ x ∧ x < 256) → ∀ x ∈ (rdMany k most r).2.bs, 0 ≤ x ∧ x < 256
  | 0, _, _, h => h
  | k + 1, most, _, h => rdMany_bd k most (rdNum_bd h)
theorem rdMany_val : ∀ (k : Nat) {most : Int} {r : Rd}, 0 ≤ most → (∀ x ∈ r.bs, 0 ≤ x ∧ x < 256) → ∀ x ∈ (rdMany k most r).1, 0 ≤ x ∧ x ≤ most
  | 0, _, _, _, _ => by simp [rdMany]
  | k + 1, most, r, hm, h => fun x hx => by
    rcases List.mem_cons.1 hx with rfl | hx
    · exact rdNum_val h hm
    · exact rdMany_val k hm (rdNum_bd h) x hx
theorem rdMany_dec : ∀ (k : Nat) {most : Int} {r : Rd}, (rdMany k most r).2.bs.length ≤ r.bs.length
  | 0, _, _ => Nat.le_refl _
  | k + 1, most, r => Nat.le_trans (rdMany_dec k) rdNum_len
def rdList (r : Rd) : List Int × Rd := rdMany (rdNum 15 r).1.toNat 15 (rdNum 15 r).2

theorem elI8 : El Tryz.prog 22 22 3 8 := ⟨Tryz.underlying22, ⟨_, Tryz.underlying22⟩, by kernel_rfl⟩

theorem nodes_spec {b r : Nat} {rd : Rd} (hb : ∀ x ∈ rd.bs, 0 ≤ x ∧ x < 256) (hw : Sat R (pts b (brCell r) :: RdAt r rd :: Hs) w) :
    Gets Tryz.prog 45 #[.pointer (some ⟨b, 0, none⟩)] w fun v w' => ∃ t : Sl, v = .slice t.a t.len t.cap ∧ Sat R (Own t 3 ((rdList rd).1.map (Value.int .i64)) :: pts b (brCell r) :: RdAt r (rdList rd).2 :: Hs) w' := by
  apply call45
  refine NilP.mk rfl ⟨some ⟨r, 0, none⟩, At.own (eqS hw) (by exact ⟨rfl, trivial⟩), ?_⟩
  refine (rnum_spec hb hw.swap).use ?_
  rintro _ w ⟨rfl, hw⟩
  refine ⟨_, rfl, ?_⟩
  have hv := rdNum_val (most := 15) hb (by omega)
  have hb1 := rdNum_bd (most := 15) hb
  obtain ⟨n, hn⟩ := Int.eq_ofNat_of_zero_le hv.1
  have hrl : rdList rd = rdMany n 15 (rdNum 15 rd).2 := by unfold rdList; rw [hn]; rfl
  rw [hrl, hn]
  rw [hn] at hv
  generalize (rdNum 15 rd).2 = rd1 at *
  refine ⟨fun out i w => ∃ k : Nat, i = k ∧ k ≤ n ∧ Sat R (Own out 3 ((rdMany k 15 rd1).1.map (Value.int .i64)) :: RdAt r (rdMany k 15 rd1).2 :: pts b (brCell r) :: Hs) w, fun _ i _ => n - i.toNat, ⟨0, rfl, by omega, Own.nil hw⟩, ?_⟩
  clear hw
  rintro _ out _ w ⟨k, rfl, hk, hw⟩
  refine Br.d (fun h => ?_) (fun h => ?_)
  · have hw : Sat R (pts b (brCell r) :: RdAt r (rdMany k 15 rd1).2 :: Own out 3 ((rdMany k 15 rd1).1.map (Value.int .i64)) :: Hs) w := hw.arr
    refine NilP.mk rfl ⟨some ⟨r, 0, none⟩, At.own (eqS hw) (by exact ⟨rfl, trivial⟩), ?_⟩
    have hbk := rdMany_bd k 15 hb1
    refine (rnum_spec hbk hw.swap).use ?_
    rintro _ w ⟨rfl, hw⟩
    refine ⟨_, rfl, ?_⟩
    have hvk := rdNum_val (most := 15) hbk (by omega)
    rw [wrap64 (by omega) (by omega)]
    have hml := rdMany_len k 15 rd1
    have hw : Sat R (Own out 3 ((rdMany k 15 rd1).1.map (Value.int .i64)) :: RdAt r (rdNum 15 (rdMany k 15 rd1).2).2 :: pts b (brCell r) :: Hs) w := hw.arr
    refine pushI_rule elI8 hw (by omega) fun s' w hw => ?_
    rw [wrapU64 (by omega) (by omega)]
    refine ⟨⟨k + 1, by omega, by omega, ?_⟩, by dsimp only; omega⟩
    rw [rdMany_snoc]
    exact hw
  · have : k = n := by omega
    subst this
    exact ⟨out, rfl, hw.arr⟩

def decSnapM (bs : List Int) : SnapM × Rd :=
  let a := rdNum 1099511627776 ⟨bs, false⟩
  let b := rdNum 1099511627776 a.2
  let v := rdList b.2
  let l := rdList v.2
  let d := rdText 60000 l.2
  (⟨a.1, b.1, v.1, l.1, d.1⟩, d.2)
def snap0 : SnapM := ⟨0, 0, [], [], []⟩
def decSnap (bs : List Int) : SnapM × Int := if rdWhole (decSnapM bs).2 = true ∧ (decSnapM bs).1.ok = true then ((decSnapM bs).1, 0) else (snap0, 6)
/-- What a snapshot has, of one's own. -/
def SnapA (x : SnapM) (sv sl sd : Sl) : HP := Star [Own sv 3 (x.vot.map (Value.int .i64)), Own sl 3 (x.lrn.map (Value.int .i64)), Own sd 5 (b8 x.data)]
theorem Sat.snapA {x : SnapM} {sv sl sd : Sl} : Sat R (SnapA x sv sl sd :: Hs) w ↔ Sat R (Own sv 3 (x.vot.map (Value.int .i64)) :: Own sl 3 (x.lrn.map (Value.int .i64)) :: Own sd 5 (b8 x.data) :: Hs) w := Sat.star
theorem SnapA.zero (hw : Sat R Hs w) : Sat R (SnapA snap0 ⟨none, 0, 0⟩ ⟨none, 0, 0⟩ ⟨none, 0, 0⟩ :: Hs) w := Sat.snapA.2 (Own.nil (Own.nil (Own.nil hw)))

theorem snapRet {bt : Nat} {i0 t0 i t e : Int} {sv0 sl0 sd0 sv sl sd : Sl} {K : Value → World → Prop} (hw : Sat R (pts bt (snapCells i0 t0 sv0 sl0 sd0) :: Hs) w) (hk : ∀ w, Sat R Hs w → K (.tuple #[.agg (snapVals i t sv sl sd).toArray, .int .i64 e]) w) :
    ∃ w_25 : World, ((Instr.storeAt 27 (.pointer ((some ⟨bt, 0, none⟩))) (.agg #[.int .i64 i, .int .i64 t, .slice sv.a sv.len sv.cap, .slice sl.a sl.len sl.cap, .slice sd.a sd.len sd.cap])).run Tryz.prog w = .ok () w_25) ∧
    ∃ t3 : Int, ∃ t3_1 : Int, ∃ t3_2 : Sl, ∃ t3_3 : Sl, ∃ t3_4 : Sl, (At (fun w' => w' = w_25) ⟨bt, 0, none⟩ [.int .i64 t3, .int .i64 t3_1, .slice t3_2.a t3_2.len t3_2.cap, .slice t3_3.a t3_3.len t3_3.cap, .slice t3_4.a t3_4.len t3_4.cap]) ∧
    K (.tuple #[.agg #[.int .i64 t3, .int .i64 t3_1, .slice t3_2.a t3_2.len t3_2.cap, .slice t3_3.a t3_3.len t3_3.cap, .slice t3_4.a t3_4.len t3_4.cap], .int .i64 e]) w_25 := by
  refine store_rule hw (by kernel_rfl) rfl (by simp [Value.cells]) fun w hw => ?_
  have hw := hw.re (pts bt (snapCells i t sv sl sd))
  exact ⟨i, t, sv, sl, sd, At.own (eqS hw) (by exact ⟨rfl, rfl, rfl, rfl, rfl, trivial⟩), hk _ hw.drop⟩

theorem dec_spec {s : Sl} {bs : List Int} (hb : ∀ y ∈ bs, 0 ≤ y ∧ y < 256) (hs : Ro R s (b8 bs)) (hl : bs.length ≤ 1099511627776) (hw : Sat R Hs w) :
    Gets Tryz.prog 11 #[.slice s.a s.len s.cap] w fun v w' => ∃ sv sl sd : Sl, v = .tuple #[.agg (snapVals (decSnap bs).1.idx (decSnap bs).1.term sv sl sd).toArray, .int .i64 (decSnap bs).2] ∧ Sat R (SnapA (decSnap bs).1 sv sl sd :: Hs) w' := by
  apply call11
  suffices H : ∀ K : Value → World → Prop, (∀ sv sl sd w', Sat R (SnapA (decSnap bs).1 sv sl sd :: Hs) w' → K (.tuple #[.agg (snapVals (decSnap bs).1.idx (decSnap bs).1.term sv sl sd).toArray, .int .i64 (decSnap bs).2]) w') → B11 s K w from
    H _ fun sv sl sd w' h => ⟨sv, sl, sd, rfl, h⟩
  intro K hK
  refine new_rule hw fun bt w hw => ?_
  have hw : Sat R (pts bt (snapCells 0 0 ⟨none, 0, 0⟩ ⟨none, 0, 0⟩ ⟨none, 0, 0⟩) :: Hs) w := hw
  refine (fnew_spec hs hl hw).use ?_
  rintro _ w ⟨r, rfl, hw⟩
  refine ⟨_, rfl, new_rule hw fun br w hw => ?_⟩
  refine store_rule hw (by kernel_rfl) rfl (by simp [Value.cells]) fun w hw => ?_
  have hw := hw.re (pts br (brCell r))
  have hb0 : ∀ y ∈ (⟨bs, false⟩ : Rd).bs, 0 ≤ y ∧ y < 256 := hb
  have v1 := rdNum_val (most := 1099511627776) hb0 (by omega)
  have hb1 := rdNum_bd (most := 1099511627776) hb0
  have l1 := rdNum_len (most := 1099511627776) (rd := ⟨bs, false⟩)
  obtain ⟨y1, rd1, e1⟩ : ∃ y1 rd1, rdNum 1099511627776 ⟨bs, false⟩ = (y1, rd1) := ⟨_, _, rfl⟩
  rw [e1] at v1 hb1 l1
  have v2 := rdNum_val (most := 1099511627776) hb1 (by omega)
  have hb2 := rdNum_bd (most := 1099511627776) hb1
  have l2 := rdNum_len (most := 1099511627776) (rd := rd1)
  obtain ⟨y2, rd2, e2⟩ : ∃ y2 rd2, rdNum 1099511627776 rd1 = (y2, rd2) := ⟨_, _, rfl⟩
  rw [e2] at v2 hb2 l2
  dsimp only at v1 hb1 l1 v2 hb2 l2
  have rs : ∀ {rd : Rd} {Hs' : List HP} {w : World}, Sat R (pts br (brCell r) :: RdAt r rd :: Hs') w → Sat R [pts br (brCell r), VC.tru] w := fun hw => hw.restTru
  refine ⟨fun p w => ∃ b, p = some ⟨b, 0, none⟩ ∧ Sat R (pts b (snapCells y1 y2 ⟨none, 0, 0⟩ ⟨none, 0, 0⟩ ⟨none, 0, 0⟩) :: pts br (brCell r) :: RdAt r rd2 :: pts bt (snapCells 0 0 ⟨none, 0, 0⟩ ⟨none, 0, 0⟩ ⟨none, 0, 0⟩) :: Hs) w, ?_, ?_⟩
  · refine drw_rule' (Sat R [pts br (brCell r), VC.tru]) hw (fun w hw => hw.restTru) fun w hw => ?_
    refine ⟨some ⟨r, 0, none⟩, At.own selfS (by exact ⟨rfl, trivial⟩), some ⟨r, 0, none⟩, At.own selfS (by exact ⟨rfl, trivial⟩), ?_⟩
    have one : ∀ {rd : Rd} {y : Int} {rd' : Rd} {Hs' : List HP} {w : World} {K : Int → World → Prop}, (∀ x ∈ rd.bs, 0 ≤ x ∧ x < 256) → rdNum 1099511627776 rd = (y, rd') → Sat R (pts br (brCell r) :: RdAt r rd :: Hs') w → (∀ w, Sat R (pts br (brCell r) :: RdAt r rd' :: Hs') w → K y w) →
        Calls Tryz.prog 46 #[.pointer (some ⟨r, 0, none⟩), .int .u64 1099511627776] w fun e w' => ∃ t : Int, e = .returned (.int .u64 t) ∧ Sat R [pts br (brCell r), VC.tru] w' ∧ K t w' := fun hb e hw k => by
      refine (rnum_spec hb hw.swap).use ?_
      rintro _ w ⟨rfl, hw⟩
      rw [e] at hw ⊢
      exact ⟨_, rfl, hw.swap.restTru, k _ hw.swap⟩
    have fin : ∀ {b : Nat} {w : World}, Sat R (pts b (snapCells 0 0 ⟨none, 0, 0⟩ ⟨none, 0, 0⟩ ⟨none, 0, 0⟩) :: pts br (brCell r) :: RdAt r rd2 :: pts bt (snapCells 0 0 ⟨none, 0, 0⟩ ⟨none, 0, 0⟩ ⟨none, 0, 0⟩) :: Hs) w →
        ∃ w_9 : World, ((Instr.storeAt 27 (.pointer ((some ⟨b, 0, none⟩))) (.agg #[.int .i64 (IntKind.i64.wrap y1), .int .i64 (IntKind.i64.wrap y2), .slice none 0 0, .slice none 0 0, .slice none 0 0])).run Tryz.prog w = .ok () w_9) ∧
        ∃ b_1, (some ⟨b, 0, none⟩ : Option Addr) = some ⟨b_1, 0, none⟩ ∧ Sat R (pts b_1 (snapCells y1 y2 ⟨none, 0, 0⟩ ⟨none, 0, 0⟩ ⟨none, 0, 0⟩) :: pts br (brCell r) :: RdAt r rd2 :: pts bt (snapCells 0 0 ⟨none, 0, 0⟩ ⟨none, 0, 0⟩ ⟨none, 0, 0⟩) :: Hs) w_9 := fun {b w} hw => by
      refine store_rule hw (by kernel_rfl) rfl (by simp [Value.cells]) fun w hw => ?_
      rw [wrap64 (x := y1) (by omega) (by omega), wrap64 (x := y2) (by omega) (by omega)] at hw
      exact ⟨b, rfl, hw.re (pts b (snapCells y1 y2 ⟨none, 0, 0⟩ ⟨none, 0, 0⟩ ⟨none, 0, 0⟩))⟩
    refine ⟨one hb0 e1 hw fun w hw => ⟨one hb1 e2 hw fun w hw => new_rule hw fun b w hw => ⟨?_, ?_⟩, new_rule hw fun b w hw => ⟨?_, ?_⟩⟩, new_rule hw fun b w hw => ⟨?_, ?_⟩⟩
    · exact hw.swap.restTru
    · exact fin hw
    · exact hw.swap.restTru
    · refine one hb1 e2 (Hs' := pts b (snapCells 0 0 ⟨none, 0, 0⟩ ⟨none, 0, 0⟩ ⟨none, 0, 0⟩) :: pts bt (snapCells 0 0 ⟨none, 0, 0⟩ ⟨none, 0, 0⟩ ⟨none, 0, 0⟩) :: Hs) ?_ fun w hw => ?_
      · have hw : Sat R (pts b (snapCells 0 0 ⟨none, 0, 0⟩ ⟨none, 0, 0⟩ ⟨none, 0, 0⟩) :: pts br (brCell r) :: RdAt r rd1 :: pts bt (snapCells 0 0 ⟨none, 0, 0⟩ ⟨none, 0, 0⟩ ⟨none, 0, 0⟩) :: Hs) w := hw
        exact hw.arr
      · exact fin hw.arr
    · exact hw.swap.restTru
    · refine one hb0 e1 (Hs' := pts b (snapCells 0 0 ⟨none, 0, 0⟩ ⟨none, 0, 0⟩ ⟨none, 0, 0⟩) :: pts bt (snapCells 0 0 ⟨none, 0, 0⟩ ⟨none, 0, 0⟩ ⟨none, 0, 0⟩) :: Hs) ?_ fun w hw => ?_
      · have hw : Sat R (pts b (snapCells 0 0 ⟨none, 0, 0⟩ ⟨none, 0, 0⟩ ⟨none, 0, 0⟩) :: pts br (brCell r) :: RdAt r ⟨bs, false⟩ :: pts bt (snapCells 0 0 ⟨none, 0, 0⟩ ⟨none, 0, 0⟩ ⟨none, 0, 0⟩) :: Hs) w := hw
        exact hw.arr
      · refine one hb1 e2 hw fun w hw => fin hw.arr
  clear hw
  rintro _ _ w ⟨b, rfl, hw⟩
  have hw : Sat R (pts br (brCell r) :: RdAt r rd2 :: pts b (snapCells y1 y2 ⟨none, 0, 0⟩ ⟨none, 0, 0⟩ ⟨none, 0, 0⟩) :: pts bt (snapCells 0 0 ⟨none, 0, 0⟩ ⟨none, 0, 0⟩ ⟨none, 0, 0⟩) :: Hs) w := hw.arr
  have bdl : ∀ {rd : Rd}, (∀ x ∈ rd.bs, 0 ≤ x ∧ x < 256) → ∀ x ∈ (rdList rd).2.bs, 0 ≤ x ∧ x < 256 := fun h => rdMany_bd _ _ (rdNum_bd h)
  have lel : ∀ {rd : Rd}, (rdList rd).2.bs.length ≤ rd.bs.length := fun {rd} => Nat.le_trans (rdMany_dec _) rdNum_len
  refine (nodes_spec hb2 hw).use ?_
  rintro _ w ⟨sv, rfl, hw⟩
  have hb3 := bdl hb2
  have l3 := lel (rd := rd2)
  obtain ⟨v, rd3, e3⟩ : ∃ v rd3, rdList rd2 = (v, rd3) := ⟨_, _, rfl⟩
  rw [e3] at hw hb3 l3
  have hw : Sat R (pts b (snapCells y1 y2 ⟨none, 0, 0⟩ ⟨none, 0, 0⟩ ⟨none, 0, 0⟩) :: pts br (brCell r) :: RdAt r rd3 :: Own sv 3 (v.map (Value.int .i64)) :: pts bt (snapCells 0 0 ⟨none, 0, 0⟩ ⟨none, 0, 0⟩ ⟨none, 0, 0⟩) :: Hs) w := hw.arr
  refine ⟨sv, rfl, NilP.mk rfl ?_⟩
  refine store_rule hw (by kernel_rfl) rfl (by simp [Value.cells]) fun w hw => ?_
  have hw := hw.re (pts b (snapCells y1 y2 sv ⟨none, 0, 0⟩ ⟨none, 0, 0⟩))
  have hw : Sat R (pts br (brCell r) :: RdAt r rd3 :: pts b (snapCells y1 y2 sv ⟨none, 0, 0⟩ ⟨none, 0, 0⟩) :: Own sv 3 (v.map (Value.int .i64)) :: pts bt (snapCells 0 0 ⟨none, 0, 0⟩ ⟨none, 0, 0⟩ ⟨none, 0, 0⟩) :: Hs) w := hw.arr
  refine (nodes_spec hb3 hw).use ?_
  rintro _ w ⟨sl, rfl, hw⟩
  have hb4 := bdl hb3
  have l4 := lel (rd := rd3)
  obtain ⟨l, rd4, e4⟩ : ∃ l rd4, rdList rd3 = (l, rd4) := ⟨_, _, rfl⟩
  rw [e4] at hw hb4 l4
  have hw : Sat R (pts b (snapCells y1 y2 sv ⟨none, 0, 0⟩ ⟨none, 0, 0⟩) :: pts br (brCell r) :: RdAt r rd4 :: Own sl 3 (l.map (Value.int .i64)) :: Own sv 3 (v.map (Value.int .i64)) :: pts bt (snapCells 0 0 ⟨none, 0, 0⟩ ⟨none, 0, 0⟩ ⟨none, 0, 0⟩) :: Hs) w := hw.arr
  refine ⟨sl, rfl, NilP.mk rfl ?_⟩
  refine store_rule hw (by kernel_rfl) rfl (by simp [Value.cells]) fun w hw => ?_
  have hw := hw.re (pts b (snapCells y1 y2 sv sl ⟨none, 0, 0⟩))
  have hw : Sat R (RdAt r rd4 :: pts br (brCell r) :: pts b (snapCells y1 y2 sv sl ⟨none, 0, 0⟩) :: Own sl 3 (l.map (Value.int .i64)) :: Own sv 3 (v.map (Value.int .i64)) :: pts bt (snapCells 0 0 ⟨none, 0, 0⟩ ⟨none, 0, 0⟩ ⟨none, 0, 0⟩) :: Hs) w := hw.arr
  refine ⟨some ⟨r, 0, none⟩, At.own (eqS hw) (by exact ⟨rfl, trivial⟩), ?_⟩
  dsimp only at l3 l4
  refine (rtext_spec (rd := rd4) (by omega) (by omega) hb4 hw).use ?_
  rintro _ w ⟨sd, rfl, hw⟩
  obtain ⟨d, rd5, e5⟩ : ∃ d rd5, rdText 60000 rd4 = (d, rd5) := ⟨_, _, rfl⟩
  rw [e5] at hw
  have hw : Sat R (pts b (snapCells y1 y2 sv sl ⟨none, 0, 0⟩) :: pts br (brCell r) :: RdAt r rd5 :: Own sd 5 (b8 d) :: Own sl 3 (l.map (Value.int .i64)) :: Own sv 3 (v.map (Value.int .i64)) :: pts bt (snapCells 0 0 ⟨none, 0, 0⟩ ⟨none, 0, 0⟩ ⟨none, 0, 0⟩) :: Hs) w := hw.arr
  refine ⟨sd, rfl, NilP.mk rfl ?_⟩
  refine store_rule hw (by kernel_rfl) rfl (by simp [Value.cells]) fun w hw => ?_
  have hw := hw.re (pts b (snapCells y1 y2 sv sl sd))
  have hm : decSnapM bs = (⟨y1, y2, v, l, d⟩, rd5) := by
    unfold decSnapM
    simp only [e1, e2, e3, e4, e5]
  have hw : Sat R (RdAt r rd5 :: pts br (brCell r) :: pts bt (snapCells 0 0 ⟨none, 0, 0⟩ ⟨none, 0, 0⟩ ⟨none, 0, 0⟩) :: pts b (snapCells y1 y2 sv sl sd) :: SnapA ⟨y1, y2, v, l, d⟩ sv sl sd :: Hs) w := by
    have hw : Sat R (RdAt r rd5 :: pts br (brCell r) :: pts bt (snapCells 0 0 ⟨none, 0, 0⟩ ⟨none, 0, 0⟩ ⟨none, 0, 0⟩) :: pts b (snapCells y1 y2 sv sl sd) :: Own sv 3 (v.map (Value.int .i64)) :: Own sl 3 (l.map (Value.int .i64)) :: Own sd 5 (b8 d) :: Hs) w := hw.arr
    exact hw.cons fun _ h => h.cons fun _ h => h.cons fun _ h => h.cons fun _ h => Sat.snapA.2 h
  refine ⟨some ⟨r, 0, none⟩, At.own (eqS hw) (by exact ⟨rfl, trivial⟩), ?_⟩
  refine (whole_spec hw).use ?_
  rintro _ w ⟨rfl, hw⟩
  have hw := hw.drop.drop
  have bad : ¬ (rdWhole rd5 = true ∧ SnapM.ok ⟨y1, y2, v, l, d⟩ = true) → decSnap bs = (snap0, 6) := fun h => by
    unfold decSnap; rw [hm]; exact if_neg h
  refine ⟨_, rfl, Br.nb (fun h => ?_) (fun h1 => ?_)⟩
  · rw [bad fun h2 => by rw [h2.1] at h; cases h] at hK
    refine snapRet (sv := ⟨none, 0, 0⟩) (sl := ⟨none, 0, 0⟩) (sd := ⟨none, 0, 0⟩) hw fun w hw => hK _ _ _ _ (SnapA.zero hw.drop.drop)
  have hw := hw.swap
  refine NilP.mk rfl ⟨y1, y2, sv, sl, sd, At.own (eqS hw) (by exact ⟨rfl, rfl, rfl, rfl, rfl, trivial⟩), ?_⟩
  have hw : Sat R (Own sv 3 (v.map (Value.int .i64)) :: Own sl 3 (l.map (Value.int .i64)) :: Own sd 5 (b8 d) :: pts b (snapCells y1 y2 sv sl sd) :: pts bt (snapCells 0 0 ⟨none, 0, 0⟩ ⟨none, 0, 0⟩ ⟨none, 0, 0⟩) :: Hs) w := by
    have h : Sat R (SnapA ⟨y1, y2, v, l, d⟩ sv sl sd :: pts b (snapCells y1 y2 sv sl sd) :: pts bt (snapCells 0 0 ⟨none, 0, 0⟩ ⟨none, 0, 0⟩ ⟨none, 0, 0⟩) :: Hs) w := hw.arr
    exact Sat.snapA.1 h
  have nl : ∀ {rd : Rd}, (∀ x ∈ rd.bs, 0 ≤ x ∧ x < 256) → (rdList rd).1.length ≤ 15 := fun {rd} h => by
    unfold rdList
    rw [rdMany_len]
    have := rdNum_val (most := 15) h (by omega)
    omega
  have vl := nl hb2
  have ll := nl hb3
  rw [e3] at vl
  rw [e4] at ll
  have hdl : sd.len = d.length := by have := Own.len hw.drop.drop; simpa using this
  obtain ⟨R1, hr1, keep1, hw, back1⟩ := Own.lendI hw (by dsimp only at vl; omega)
  obtain ⟨R2, hr2, keep2, hw, back2⟩ := Own.lendI hw (by dsimp only at ll; omega)
  refine (right_spec (i := y1) (t := y2) (sd := sd) (keep2 _ _ hr1) hr2 hw).use ?_
  rintro _ w ⟨rfl, hw⟩
  have hw := back1 (back2 hw)
  have hw : Sat R (pts b (snapCells y1 y2 sv sl sd) :: pts bt (snapCells 0 0 ⟨none, 0, 0⟩ ⟨none, 0, 0⟩ ⟨none, 0, 0⟩) :: SnapA ⟨y1, y2, v, l, d⟩ sv sl sd :: Hs) w := by
    have hw : Sat R (pts b (snapCells y1 y2 sv sl sd) :: pts bt (snapCells 0 0 ⟨none, 0, 0⟩ ⟨none, 0, 0⟩ ⟨none, 0, 0⟩) :: Own sv 3 (v.map (Value.int .i64)) :: Own sl 3 (l.map (Value.int .i64)) :: Own sd 5 (b8 d) :: Hs) w := hw.arr
    exact hw.cons fun _ h => h.cons fun _ h => Sat.snapA.2 h
  refine ⟨_, rfl, ?_⟩
  rw [hdl]
  refine Br.nb (fun h => ?_) (fun h2 => ?_)
  · rw [bad fun h2 => by rw [show snapOk y1 y2 v l d.length = true from h2.2] at h; cases h] at hK
    refine snapRet (sv := ⟨none, 0, 0⟩) (sl := ⟨none, 0, 0⟩) (sd := ⟨none, 0, 0⟩) hw.drop fun w hw => hK _ _ _ _ (SnapA.zero hw.drop)
  refine NilP.mk rfl ⟨y1, y2, sv, sl, sd, At.own (eqS hw) (by exact ⟨rfl, rfl, rfl, rfl, rfl, trivial⟩), ?_⟩
  have e : decSnap bs = (⟨y1, y2, v, l, d⟩, 0) := by unfold decSnap; rw [hm]; exact if_pos ⟨h1, h2⟩
  rw [e] at hK
  exact snapRet hw.drop fun w hw => hK sv sl sd w hw

end Go.Proofs.YtgfneeoponiibaaGreat
/- Reference 07: which snapshots may be, their bytes, whether two are the same. Condition: bounds on lengths. -/
namespace Go.Proofs.YtgfneeoponiibaaGreat
open Go Go.VC

variable {R : Cx} {Hs Rest : List HP} {w : World}

theorem has_spec {s : Sl} {l : List Int} {k : Int} (hs : RoI R s l) (hw : Sat R Hs w) :
    Gets Tryz.prog 96 #[.slice s.a s.len s.cap, .int .i64 k] w fun v w' => v = .bool (decide (k ∈ l)) ∧ Sat R Hs w' := by
  have hlen := hs.len
  have hbd := hs.bound
  apply call96
  refine ⟨fun i w => ∃ j : Nat, i = j ∧ j ≤ l.length ∧ k ∉ l.take j ∧ Sat R Hs w, fun i _ => l.length - i.toNat, ⟨0, rfl, by omega, by simp, hw⟩, ?_⟩
  clear hw
  rintro _ _ w ⟨j, rfl, hj, hn, hw⟩
  refine Br.d (fun h => ?_) (fun h => ?_)
  · have hj2 : j < l.length := by omega
    refine hs.idx (eqS hw) hj2 ?_
    refine Br.e (fun h => ⟨?_, hw⟩) (fun h => ?_)
    · rw [decide_eq_true (show k ∈ l by rw [← h]; exact List.getElem_mem _)]
    rw [wrap64 (by omega) (by omega)]
    refine ⟨⟨j + 1, by omega, by omega, ?_, hw⟩, by dsimp only; omega⟩
    rw [List.take_add_one, List.getElem?_eq_getElem hj2]
    simp only [Option.toList_some, List.mem_append, List.mem_singleton, not_or]
    exact ⟨hn, fun h2 => h h2.symm⟩
  · rw [List.take_of_length_le (by omega)] at hn
    exact ⟨by rw [decide_eq_false hn], hw⟩

theorem rrises_spec {s : Sl} {l : List Int} (hs : RoI R s l) (hw : Sat R Hs w) :
    Gets Tryz.prog 95 #[.slice s.a s.len s.cap] w fun v w' => v = .bool (risesF 0 l) ∧ Sat R Hs w' := by
  have hlen := hs.len
  have hbd := hs.bound
  apply call95
  refine ⟨fun i w => ∃ (j : Nat) (last : Int), i = j ∧ j ≤ l.length ∧ risesF last (l.drop j) = risesF 0 l ∧ 0 ≤ last ∧ ((j = 0 ∧ last = 0) ∨ ∃ k, j = k + 1 ∧ l[k]? = some last) ∧ Sat R Hs w, fun i _ => l.length - i.toNat, ⟨0, 0, rfl, by omega, rfl, by omega, .inl ⟨rfl, rfl⟩, hw⟩, ?_⟩
  clear hw
  rintro _ _ w ⟨j, last, rfl, hj, hn, h0, hl, hw⟩
  refine Br.d (fun h => ?_) (fun h => ?_)
  · have hj2 : j < l.length := by omega
    rw [risesF_drop hj2] at hn
    refine drw_rule hw fun w hw => ?_
    refine hs.idx selfS hj2 ?_
    refine Br.d (fun h1 => ⟨?_, hw⟩) (fun h1 => ?_)
    · rw [if_pos (by omega)] at hn; rw [← hn]
    refine hs.idx selfS hj2 ?_
    have next : ¬ l[j] ≤ last → ¬ l[j] > 15 → (∃ (j' : Nat) (last : Int), IntKind.i64.wrap ((j : Int) + 1) = j' ∧ j' ≤ l.length ∧ risesF last (l.drop j') = risesF 0 l ∧ 0 ≤ last ∧ ((j' = 0 ∧ last = 0) ∨ ∃ k, j' = k + 1 ∧ l[k]? = some last) ∧ Sat R Hs w) ∧ l.length - (IntKind.i64.wrap ((j : Int) + 1)).toNat < l.length - (j : Int).toNat := fun ha hb => by
      rw [if_neg ha, if_neg hb] at hn
      rw [wrap64 (by omega) (by omega)]
      exact ⟨⟨j + 1, l[j], by omega, by omega, hn, by omega, .inr ⟨j, rfl, List.getElem?_eq_getElem hj2⟩, hw⟩, by omega⟩
    refine Br.d (fun h2 => ⟨?_, hw⟩) (fun h2 => Br.d (fun h3 => ?_) (fun h3 => ?_))
    · by_cases hh : l[j] ≤ last
      · rw [if_pos hh] at hn; rw [← hn]
      · rw [if_neg hh, if_pos h2] at hn; rw [← hn]
    · rcases hl with ⟨rfl, _⟩ | ⟨k, rfl, hk⟩
      · omega
      have hk2 : k < l.length := by omega
      have hlk : l[k] = last := by rw [List.getElem?_eq_getElem hk2] at hk; exact Option.some.inj hk
      refine hs.idx selfS hj2 ?_
      refine Ro.ix hs selfS k (by rw [wrap64 (by omega) (by omega)]; omega) hk2 ?_
      rw [hlk]
      refine Br.d (fun h4 => ⟨?_, hw⟩) (fun h4 => next h4 h2)
      rw [if_pos h4] at hn; rw [← hn]
    · rcases hl with ⟨rfl, rfl⟩ | ⟨k, rfl, hk⟩
      · exact next (by omega) h2
      · omega
  · rw [List.drop_eq_nil_of_le (by omega)] at hn
    exact ⟨by rw [← hn]; rfl, hw⟩

abbrev grpCells (sv sl : Sl) : Obj := .cells [.slice sv.a sv.len sv.cap, .slice sl.a sl.len sl.cap].toArray 24 (0, 0)

theorem rgroup_spec {sv sl : Sl} {v l : List Int} (hv : RoI R sv v) (hl : RoI R sl l) (hw : Sat R Hs w) :
    Gets Tryz.prog 61 #[.agg #[.slice sv.a sv.len sv.cap, .slice sl.a sl.len sl.cap]] w fun r w' => r = .bool (grpOk v l) ∧ Sat R Hs w' := by
  have hvl := hv.len
  have hbd := hv.bound
  apply call61
  refine new_rule hw fun p w hw => ?_
  have hw : Sat R (pts p (grpCells sv sl) :: Hs) w := hw
  refine ⟨sv, At.own (eqS hw) (by exact ⟨rfl, trivial⟩), ?_⟩
  refine (rrises_spec hv hw).use ?_
  rintro _ w ⟨rfl, hw⟩
  refine ⟨_, rfl, sl, At.own (eqS hw) (by exact ⟨rfl, trivial⟩), ?_⟩
  refine (rrises_spec hl hw).use ?_
  rintro _ w ⟨rfl, hw⟩
  refine ⟨_, rfl, ?_⟩
  refine ⟨fun w => (risesF 0 v = true ∧ risesF 0 l = true ∧ 0 < v.length) ∧ Sat R (pts p (grpCells sv sl) :: Hs) w, Br.nb (fun h => ⟨?_, hw.drop⟩) (fun h1 => Br.nb (fun h => ⟨?_, hw.drop⟩) (fun h2 => ⟨sv, At.own (eqS hw) (by exact ⟨rfl, trivial⟩), Br.e (fun h => ⟨?_, hw.drop⟩) (fun h => ⟨⟨h1, h2, by omega⟩, hw⟩)⟩)), ?_⟩
  · unfold grpOk; rw [h]; rfl
  · unfold grpOk; rw [h1, h]; rfl
  · unfold grpOk; rw [decide_eq_false (show ¬ 0 < v.length by omega), Bool.and_false]; rfl
  clear hw
  rintro _ w ⟨⟨h1, h2, h3⟩, hw⟩
  have e : grpOk v l = !(v.any fun n => decide (n ∈ l)) := by unfold grpOk; rw [h1, h2, decide_eq_true h3]; rfl
  rw [e]
  refine ⟨fun i w => ∃ j : Nat, i = j ∧ j ≤ v.length ∧ ((v.take j).any fun n => decide (n ∈ l)) = false ∧ Sat R (pts p (grpCells sv sl) :: Hs) w, fun i _ => v.length - i.toNat, ⟨0, rfl, by omega, by simp, hw⟩, ?_⟩
  clear hw
  rintro _ _ w ⟨j, rfl, hj, hn, hw⟩
  refine ⟨sv, At.own (eqS hw) (by exact ⟨rfl, trivial⟩), Br.d (fun h => ?_) (fun h => ?_)⟩
  · have hj2 : j < v.length := by omega
    refine drw_rule hw fun w hw => ?_
    refine ⟨sl, At.own selfS (by exact ⟨rfl, trivial⟩), sv, At.own selfS (by exact ⟨rfl, trivial⟩), hv.idx selfS hj2 ?_⟩
    refine (has_spec hl hw).use ?_
    rintro _ w ⟨rfl, hw⟩
    refine ⟨_, rfl, hw, Br.d (fun h => ⟨?_, hw.drop⟩) (fun h => ?_)⟩
    · rw [show (v.any fun n => decide (n ∈ l)) = true from List.any_eq_true.2 ⟨_, List.getElem_mem _, decide_eq_true h⟩]; rfl
    · rw [wrap64 (by omega) (by omega)]
      refine ⟨⟨j + 1, by omega, by omega, ?_, hw⟩, by dsimp only; omega⟩
      rw [List.take_add_one, List.getElem?_eq_getElem hj2, List.any_append, hn]
      simp [h]
  · rw [List.take_of_length_le (by omega)] at hn
    rw [hn]; exact ⟨rfl, hw.drop⟩

theorem rsnap_spec {i t : Int} {sv sl sd : Sl} {v l : List Int} (hv : RoI R sv v) (hl : RoI R sl l) (hw : Sat R Hs w) :
    Gets Tryz.prog 21 #[.agg #[.int .i64 i, .int .i64 t, .slice sv.a sv.len sv.cap, .slice sl.a sl.len sl.cap, .slice sd.a sd.len sd.cap]] w fun r w' => r = .bool (snapOk i t v l sd.len) ∧ Sat R Hs w' := by
  apply call21
  refine new_rule hw fun p w hw => ?_
  have hw : Sat R (pts p (snapCells i t sv sl sd) :: Hs) w := hw
  refine ⟨sv, sl, At.own (eqS hw) (by exact ⟨rfl, rfl, trivial⟩), ?_⟩
  refine (rgroup_spec hv hl hw).use ?_
  rintro _ w ⟨rfl, hw⟩
  refine ⟨_, rfl, ?_⟩
  have no : (¬ ((0 ≤ i ∧ i ≤ 1099511627776) ∧ (0 ≤ t ∧ t ≤ 1099511627776)) ∨ grpOk v l = false) → Value.bool false = .bool (snapOk i t v l sd.len) := fun h => by
    unfold snapOk
    rcases h with h | h
    · have : (decide (0 ≤ i ∧ i ≤ 1099511627776) && decide (0 ≤ t ∧ t ≤ 1099511627776)) = false := by
        rw [← Bool.decide_and]; exact decide_eq_false h
      rw [this]; rfl
    · rw [h, Bool.and_false]; rfl
  refine ⟨i, At.own (eqS hw) (by exact ⟨rfl, trivial⟩), Br.d (fun h1 => ?_) (fun h1 => ⟨no (.inl fun h => h1 h.1.1), hw.drop⟩)⟩
  refine ⟨i, At.own (eqS hw) (by exact ⟨rfl, trivial⟩), Br.d (fun h2 => ?_) (fun h2 => ⟨no (.inl fun h => h2 h.1.2), hw.drop⟩)⟩
  refine ⟨t, At.own (eqS hw) (by exact ⟨rfl, trivial⟩), Br.d (fun h3 => ?_) (fun h3 => ⟨no (.inl fun h => h3 h.2.1), hw.drop⟩)⟩
  refine ⟨t, At.own (eqS hw) (by exact ⟨rfl, trivial⟩), Br.d (fun h4 => Br.mk (fun h5 => ?_) (fun h5 => ⟨no (.inr h5), hw.drop⟩)) (fun h4 => ⟨no (.inl fun h => h4 h.2.2), hw.drop⟩)⟩
  refine ⟨sd, At.own (eqS hw) (by exact ⟨rfl, trivial⟩), ?_, hw.drop⟩
  unfold snapOk
  rw [decide_eq_true (show 0 ≤ i ∧ i ≤ 1099511627776 from ⟨h1, h2⟩), decide_eq_true (show 0 ≤ t ∧ t ≤ 1099511627776 from ⟨h3, h4⟩), h5]
  simp only [Bool.true_and]
  congr 1
  rw [decide_eq_decide]; omega

theorem rhard_spec (t v : Int) (hw : Sat R Hs w) : Gets Tryz.prog 20 #[.agg #[.int .i64 t, .int .i64 v]] w fun r w' => r = .bool (decide (hardOk t v)) ∧ Sat R Hs w' := by
  apply call20
  refine new_rule hw fun p w hw => ?_
  have hw : Sat R (pts p (.cells [.int .i64 t, .int .i64 v].toArray 37 (0, 0)) :: Hs) w := hw
  refine ⟨t, At.own (eqS hw) (by exact ⟨rfl, trivial⟩), Br.d (fun h1 => ⟨t, At.own (eqS hw) (by exact ⟨rfl, trivial⟩), Br.d (fun h2 => ⟨v, At.own (eqS hw) (by exact ⟨rfl, trivial⟩), Br.d (fun h3 => ⟨v, At.own (eqS hw) (by exact ⟨rfl, trivial⟩), ?_, hw.drop⟩) (fun h3 => ⟨?_, hw.drop⟩)⟩) (fun h2 => ⟨?_, hw.drop⟩)⟩) (fun h1 => ⟨?_, hw.drop⟩)⟩
  · congr 1
    rw [decide_eq_decide]
    exact ⟨fun h4 => ⟨⟨h1, h2⟩, ⟨h3, h4⟩⟩, fun h => h.2.2⟩
  · rw [decide_eq_false (fun h => h3 h.2.1)]
  · rw [decide_eq_false (fun h => h2 h.1.2)]
  · rw [decide_eq_false (fun h => h1 h.1.1)]

theorem rnumbers_spec {s : Sl} {l : List Int} (hl : ∀ x ∈ l, 0 ≤ x ∧ x < 9223372036854775808) (hn : l.length ≤ 1000000) (hs : RoI R s l) (hw : Sat R Hs w) :
    Gets Tryz.prog 42 #[.slice s.a s.len s.cap] w fun v w' => ∃ t : Sl, v = .slice t.a t.len t.cap ∧ Sat R (Own t 5 (b8 (numsB [(l.length : Int)] ++ numsB l)) :: Hs) w' := by
  have hlen := hs.len
  apply call42
  unfold B42
  rw [show IntKind.u64.wrap (s.len : Int) = ((l.length : Nat) : Int) by rw [wrapU64 (by omega) (by omega), hlen]]
  refine (rnumber_spec (by omega) hw).use ?_
  rintro _ w ⟨t, rfl, hw⟩
  refine ⟨t, rfl, ?_⟩
  have e1 : numsB [(l.length : Int)] = numB l.length := by simp [numsB]
  rw [e1]
  have hnb := numB_len (n := l.length) (by omega)
  refine ⟨fun out i w => ∃ k : Nat, i = k ∧ k ≤ l.length ∧ Sat R (Own out 5 (b8 (numB l.length ++ numsB (l.take k))) :: Hs) w, fun _ i _ => l.length - i.toNat, ⟨0, rfl, by omega, by simpa [numsB] using hw⟩, ?_⟩
  clear hw
  rintro _ out _ w ⟨k, rfl, hk, hw⟩
  refine Br.d (fun h => ?_) (fun h => ?_)
  · have hkx : k < l.length := by omega
    have hx := hl l[k] (List.getElem_mem _)
    have hxt : ∀ x ∈ l.take k, 0 ≤ x ∧ x < 18446744073709551616 := fun x hx => by have := hl x (List.mem_of_mem_take hx); omega
    have hnl := numsB_len hxt
    rw [List.length_take] at hnl
    refine hs.idx (eqS hw) hkx ?_
    obtain ⟨n, hn⟩ := Int.eq_ofNat_of_zero_le hx.1
    rw [hn, wrapU64 (by omega) (by omega)]
    refine (rnumber_spec (by omega) hw).use ?_
    rintro _ w ⟨t2, rfl, hw⟩
    refine ⟨t2, rfl, ?_⟩
    have hnb2 := numB_len (n := n) (by omega)
    refine appendOO elB8 (s := out) (n := 1099511627790) Tryz.underlying25 hw.swap (by rw [List.length_append]; omega) (by omega) (by omega) fun s2 w hw => ?_
    rw [wrap64 (by omega) (by omega)]
    refine ⟨⟨k + 1, by omega, by omega, ?_⟩, by dsimp only; omega⟩
    rw [numsB_take hkx, hn, Int.toNat_natCast, ← List.append_assoc]
    exact hw.cons fun _ h => h.drop
  · have : k = l.length := by omega
    subst this
    rw [List.take_length] at hw
    exact ⟨out, rfl, hw⟩

theorem snapB_eq (x : SnapM) (h1 : 0 ≤ x.idx) (h2 : 0 ≤ x.term) : snapB x = numB x.idx.toNat ++ numB x.term.toNat ++ (numsB [(x.vot.length : Int)] ++ numsB x.vot) ++ (numsB [(x.lrn.length : Int)] ++ numsB x.lrn) ++ textB x.data := by
  simp [snapB, numsB]

theorem renc_spec {x : SnapM} {sv sl sd : Sl} (hv : RoI R sv x.vot) (hl : RoI R sl x.lrn) (hd : Ro R sd (b8 x.data)) (hw : Sat R Hs w) :
    Gets Tryz.prog 10 #[.agg #[.int .i64 x.idx, .int .i64 x.term, .slice sv.a sv.len sv.cap, .slice sl.a sl.len sl.cap, .slice sd.a sd.len sd.cap]] w fun r w' =>
      (x.ok = false ∧ r = .tuple #[.slice none 0 0, .int .i64 1] ∧ Sat R Hs w') ∨
      (x.ok = true ∧ ∃ t : Sl, r = .tuple #[.slice t.a t.len t.cap, .int .i64 0] ∧ Sat R (Own t 5 (b8 (snapB x)) :: Hs) w') := by
  have hdl : sd.len = x.data.length := by have := hd.len; simpa using this
  apply call10
  refine new_rule hw fun p w hw => ?_
  have hw : Sat R (pts p (snapCells x.idx x.term sv sl sd) :: Hs) w := hw
  refine ⟨x.idx, x.term, sv, sl, sd, At.own (eqS hw) (by exact ⟨rfl, rfl, rfl, rfl, rfl, trivial⟩), ?_⟩
  refine (rsnap_spec (sd := sd) hv hl hw).use ?_
  rintro _ w ⟨rfl, hw⟩
  refine ⟨_, rfl, ?_⟩
  rw [hdl]
  refine Br.nb (fun h => .inl ⟨h, rfl, hw.drop⟩) (fun hok => ?_)
  obtain ⟨h1, h2, h3, h4, h5, h6, h7, _⟩ := snapOk_out (x := x) hok
  have nb : ∀ l : List Int, (∀ n ∈ l, 0 ≤ n ∧ n ≤ 15) → ∀ x ∈ l, 0 ≤ x ∧ x < 9223372036854775808 := fun l h x hx => by have := h x hx; omega
  have nc : ∀ l : List Int, (∀ n ∈ l, 0 ≤ n ∧ n ≤ 15) → ∀ x ∈ l, 0 ≤ x ∧ x < 18446744073709551616 := fun l h x hx => by have := h x hx; omega
  refine drw_rule' (Sat R [pts p (snapCells x.idx x.term sv sl sd), VC.tru]) hw (fun w hw => hw.restTru) fun w hw => ?_
  refine ⟨x.idx, At.own selfS (by exact ⟨rfl, trivial⟩), x.term, At.own selfS (by exact ⟨rfl, trivial⟩), ?_⟩
  obtain ⟨i, hi⟩ := Int.eq_ofNat_of_zero_le h1.1
  obtain ⟨t, ht⟩ := Int.eq_ofNat_of_zero_le h2.1
  have l1 := numB_len (n := i) (by omega)
  have l2 := numB_len (n := t) (by omega)
  have lv := numsB_len (nc _ h3)
  have l3 : (numsB [(x.vot.length : Int)]).length ≤ 9 := numsB_len (by intro y hy; simp at hy; omega)
  have l4 : (numsB [(x.lrn.length : Int)]).length ≤ 9 := numsB_len (by intro y hy; simp at hy; omega)
  have ll := numsB_len (nc _ h4)
  have lt : (textB x.data).length ≤ 60009 := by unfold textB; rw [List.length_append]; have := numB_len (n := x.data.length) (by omega); omega
  have eB := snapB_eq x h1.1 h2.1
  rw [hi, ht] at eB
  rw [hi, ht] at hw ⊢
  rw [Int.toNat_natCast, Int.toNat_natCast] at eB
  rw [wrapU64 (x := (i : Int)) (by omega) (by omega), wrapU64 (x := (t : Int)) (by omega) (by omega)]
  refine (rnumber_spec (by omega) hw).use ?_
  rintro _ w ⟨t1, rfl, hw⟩
  refine ⟨t1, rfl, hw.swap.restTru, ?_⟩
  refine (rnumber_spec (by omega) hw).use ?_
  rintro _ w ⟨t2, rfl, hw⟩
  have e0 : ∀ {Hs' : List HP} {w}, Sat R (pts p (snapCells i t sv sl sd) :: Hs') w → Sat R [pts p (snapCells i t sv sl sd), VC.tru] w := fun h => h.restTru
  have hwp : Sat R (pts p (snapCells i t sv sl sd) :: Own t1 5 (b8 (numB i)) :: Own t2 5 (b8 (numB t)) :: Hs) w := hw.arr
  refine ⟨t2, rfl, e0 hwp, ?_⟩
  refine appendOO elB8 (s := t1) (n := 70000) Tryz.underlying25 hw.swap (by omega) (by omega) (by omega) fun t3 w hw => ?_
  have hw : Sat R (pts p (snapCells i t sv sl sd) :: Own t3 5 (b8 (numB i ++ numB t)) :: Own t2 5 (b8 (numB t)) :: Hs) w := hw.arr
  refine ⟨e0 hw, sv, At.own (eqS hw) (by exact ⟨rfl, trivial⟩), ?_⟩
  have hw := hw.cons fun _ h => h.cons fun _ h => h.drop
  refine (rnumbers_spec (nb _ h3) (by omega) hv hw).use ?_
  rintro _ w ⟨t4, rfl, hw⟩
  refine ⟨t4, rfl, ?_⟩
  have hw : Sat R (Own t3 5 (b8 (numB i ++ numB t)) :: Own t4 5 (b8 (numsB [(x.vot.length : Int)] ++ numsB x.vot)) :: pts p (snapCells i t sv sl sd) :: Hs) w := hw.arr
  refine appendOO elB8 (s := t3) (n := 70000) Tryz.underlying25 hw (by simp only [List.length_append]; omega) (by omega) (by omega) fun t5 w hw => ?_
  have hw := hw.cons fun _ h => h.drop
  have hw := hw.swap
  refine ⟨sl, At.own (eqS hw) (by exact ⟨rfl, trivial⟩), ?_⟩
  refine (rnumbers_spec (nb _ h4) (by omega) hl hw).use ?_
  rintro _ w ⟨t6, rfl, hw⟩
  refine ⟨t6, rfl, ?_⟩
  have hw : Sat R (Own t5 5 (b8 (numB i ++ numB t ++ (numsB [(x.vot.length : Int)] ++ numsB x.vot))) :: Own t6 5 (b8 (numsB [(x.lrn.length : Int)] ++ numsB x.lrn)) :: pts p (snapCells i t sv sl sd) :: Hs) w := hw.arr
  refine appendOO elB8 (s := t5) (n := 70000) Tryz.underlying25 hw (by simp only [List.length_append]; omega) (by omega) (by omega) fun t7 w hw => ?_
  have hw := hw.cons fun _ h => h.drop
  have hw := hw.swap
  refine ⟨sd, At.own (eqS hw) (by exact ⟨rfl, trivial⟩), ?_⟩
  refine (rtextB_spec hd (by omega) hw).use ?_
  rintro _ w ⟨t8, rfl, hw⟩
  refine ⟨t8, rfl, ?_⟩
  have hw : Sat R (Own t7 5 (b8 (numB i ++ numB t ++ (numsB [(x.vot.length : Int)] ++ numsB x.vot) ++ (numsB [(x.lrn.length : Int)] ++ numsB x.lrn))) :: Own t8 5 (b8 (textB x.data)) :: pts p (snapCells i t sv sl sd) :: Hs) w := hw.arr
  refine appendOO elB8 (s := t7) (n := 70000) Tryz.underlying25 hw (by simp only [List.length_append]; omega) (by omega) (by omega) fun t9 w hw => ?_
  rw [← eB] at hw
  exact .inr ⟨hok, t9, rfl, hw.cons fun _ h => h.drop.drop⟩

end Go.Proofs.YtgfneeoponiibaaGreat
/- Reference 07: a snapshot out of bytes; whether two snapshots are the same. Condition: bounds on lengths. -/
namespace Go.Proofs.YtgfneeoponiibaaGreat
open Go Go.VC

variable {R : Cx} {Hs Rest : List HP} {w : World}

theorem rlist_spec {r : Nat} {s : Sl} {bs : List Int} {rd : Rd} (hl : bs.length ≤ 1099511627776) (hb : ∀ x ∈ bs, 0 ≤ x ∧ x < 256) (hbr : ∀ x ∈ rd.bs, 0 ≤ x ∧ x < 256) (hs : SlR R.m s (b8 bs)) (hw : Sat R (RRdAt r s bs rd :: Hs) w) :
    Gets Tryz.prog 50 #[.pointer (some ⟨r, 0, none⟩)] w fun v w' => ∃ t : Sl, v = .slice t.a t.len t.cap ∧ Sat R (Own t 3 ((rdList rd).1.map (Value.int .i64)) :: RRdAt r s bs (rdList rd).2 :: Hs) w' := by
  apply call50
  refine (rrnum_spec hl hb hs hw).use ?_
  rintro _ w ⟨rfl, hw⟩
  refine ⟨_, rfl, ?_⟩
  have hv := rdNum_val (most := 15) hbr (by omega)
  have hb1 := rdNum_bd (most := 15) hbr
  obtain ⟨n, hn⟩ := Int.eq_ofNat_of_zero_le hv.1
  have hrl : rdList rd = rdMany n 15 (rdNum 15 rd).2 := by unfold rdList; rw [hn]; rfl
  rw [hrl, hn]
  rw [hn] at hv
  generalize (rdNum 15 rd).2 = rd1 at *
  refine ⟨fun out i w => ∃ k : Nat, i = k ∧ k ≤ n ∧ Sat R (Own out 3 ((rdMany k 15 rd1).1.map (Value.int .i64)) :: RRdAt r s bs (rdMany k 15 rd1).2 :: Hs) w, fun _ i _ => n - i.toNat, ⟨0, rfl, by omega, Own.nil hw⟩, ?_⟩
  clear hw
  rintro _ out _ w ⟨k, rfl, hk, hw⟩
  refine Br.d (fun h => ?_) (fun h => ?_)
  · have hbk := rdMany_bd k 15 hb1
    refine (rrnum_spec hl hb hs hw.swap).use ?_
    rintro _ w ⟨rfl, hw⟩
    refine ⟨_, rfl, ?_⟩
    have hvk := rdNum_val (most := 15) hbk (by omega)
    rw [wrap64 (by omega) (by omega)]
    have hml := rdMany_len k 15 rd1
    refine pushI_rule elI8 hw.swap (by omega) fun s' w hw => ?_
    rw [wrapU64 (by omega) (by omega)]
    refine ⟨⟨k + 1, by omega, by omega, ?_⟩, by dsimp only; omega⟩
    rw [rdMany_snoc]
    exact hw
  · have : k = n := by omega
    subst this
    exact ⟨out, rfl, hw⟩

theorem rdec_spec {s : Sl} {bs : List Int} (hb : ∀ y ∈ bs, 0 ≤ y ∧ y < 256) (hs : SlR R.m s (b8 bs)) (hl : bs.length ≤ 1099511627776) (hw : Sat R Hs w) :
    Gets Tryz.prog 12 #[.slice s.a s.len s.cap] w fun v w' => ∃ sv sl sd : Sl, v = .tuple #[.agg (snapVals (decSnap bs).1.idx (decSnap bs).1.term sv sl sd).toArray, .int .i64 (decSnap bs).2] ∧ Sat R (SnapA (decSnap bs).1 sv sl sd :: Hs) w' := by
  apply call12
  suffices H : ∀ K : Value → World → Prop, (∀ sv sl sd w', Sat R (SnapA (decSnap bs).1 sv sl sd :: Hs) w' → K (.tuple #[.agg (snapVals (decSnap bs).1.idx (decSnap bs).1.term sv sl sd).toArray, .int .i64 (decSnap bs).2]) w') → B12 s K w from
    H _ fun sv sl sd w' h => ⟨sv, sl, sd, rfl, h⟩
  intro K hK
  refine new_rule hw fun bt w hw => new_rule hw fun r w hw => ?_
  have hw : Sat R (RRdAt r s bs ⟨bs, false⟩ :: pts bt (snapCells 0 0 ⟨none, 0, 0⟩ ⟨none, 0, 0⟩ ⟨none, 0, 0⟩) :: Hs) w := by
    have hw : Sat R (pts r (rrCells s 0 false) :: pts bt (snapCells 0 0 ⟨none, 0, 0⟩ ⟨none, 0, 0⟩ ⟨none, 0, 0⟩) :: Hs) w := hw
    exact Sat.rrd.2 ⟨0, ⟨by omega, rfl⟩, hw⟩
  have hb0 : ∀ y ∈ (⟨bs, false⟩ : Rd).bs, 0 ≤ y ∧ y < 256 := hb
  have v1 := rdNum_val (most := 1099511627776) hb0 (by omega)
  have hb1 := rdNum_bd (most := 1099511627776) hb0
  obtain ⟨y1, rd1, e1⟩ : ∃ y1 rd1, rdNum 1099511627776 ⟨bs, false⟩ = (y1, rd1) := ⟨_, _, rfl⟩
  rw [e1] at v1 hb1
  have v2 := rdNum_val (most := 1099511627776) hb1 (by omega)
  have hb2 := rdNum_bd (most := 1099511627776) hb1
  obtain ⟨y2, rd2, e2⟩ : ∃ y2 rd2, rdNum 1099511627776 rd1 = (y2, rd2) := ⟨_, _, rfl⟩
  rw [e2] at v2 hb2
  dsimp only at v1 hb1 v2 hb2
  refine (rrnum_spec hl hb hs hw).use ?_
  rintro _ w ⟨rfl, hw⟩
  rw [e1] at hw ⊢
  refine ⟨_, rfl, ?_⟩
  refine (rrnum_spec hl hb hs hw).use ?_
  rintro _ w ⟨rfl, hw⟩
  dsimp only at hw ⊢
  rw [e2] at hw ⊢
  dsimp only at hw ⊢
  refine ⟨_, rfl, new_rule hw fun b w hw => ?_⟩
  refine store_rule hw (by kernel_rfl) rfl (by simp [Value.cells]) fun w hw => ?_
  rw [wrap64 (x := y1) (by omega) (by omega), wrap64 (x := y2) (by omega) (by omega)] at hw
  have hw := hw.re (pts b (snapCells y1 y2 ⟨none, 0, 0⟩ ⟨none, 0, 0⟩ ⟨none, 0, 0⟩))
  have bdl : ∀ {rd : Rd}, (∀ x ∈ rd.bs, 0 ≤ x ∧ x < 256) → ∀ x ∈ (rdList rd).2.bs, 0 ≤ x ∧ x < 256 := fun h => rdMany_bd _ _ (rdNum_bd h)
  refine (rlist_spec hl hb hb2 hs hw.swap).use ?_
  rintro _ w ⟨sv, rfl, hw⟩
  have hb3 := bdl hb2
  obtain ⟨v, rd3, e3⟩ : ∃ v rd3, rdList rd2 = (v, rd3) := ⟨_, _, rfl⟩
  rw [e3] at hw hb3
  have hw : Sat R (pts b (snapCells y1 y2 ⟨none, 0, 0⟩ ⟨none, 0, 0⟩ ⟨none, 0, 0⟩) :: RRdAt r s bs rd3 :: Own sv 3 (v.map (Value.int .i64)) :: pts bt (snapCells 0 0 ⟨none, 0, 0⟩ ⟨none, 0, 0⟩ ⟨none, 0, 0⟩) :: Hs) w := hw.arr
  refine ⟨sv, rfl, ?_⟩
  refine store_rule hw (by kernel_rfl) rfl (by simp [Value.cells]) fun w hw => ?_
  have hw := hw.re (pts b (snapCells y1 y2 sv ⟨none, 0, 0⟩ ⟨none, 0, 0⟩))
  refine (rlist_spec hl hb hb3 hs hw.swap).use ?_
  rintro _ w ⟨sl, rfl, hw⟩
  have hb4 := bdl hb3
  obtain ⟨l, rd4, e4⟩ : ∃ l rd4, rdList rd3 = (l, rd4) := ⟨_, _, rfl⟩
  dsimp only at hw hb4
  rw [e4] at hw hb4
  have hw : Sat R (pts b (snapCells y1 y2 sv ⟨none, 0, 0⟩ ⟨none, 0, 0⟩) :: RRdAt r s bs rd4 :: Own sl 3 (l.map (Value.int .i64)) :: Own sv 3 (v.map (Value.int .i64)) :: pts bt (snapCells 0 0 ⟨none, 0, 0⟩ ⟨none, 0, 0⟩ ⟨none, 0, 0⟩) :: Hs) w := hw.arr
  refine ⟨sl, rfl, ?_⟩
  refine store_rule hw (by kernel_rfl) rfl (by simp [Value.cells]) fun w hw => ?_
  have hw := hw.re (pts b (snapCells y1 y2 sv sl ⟨none, 0, 0⟩))
  refine (rrtext_spec (by omega) hl hb hs hw.swap).use ?_
  rintro _ w ⟨sd, rfl, hw⟩
  obtain ⟨d, rd5, e5⟩ : ∃ d rd5, rdText 60000 rd4 = (d, rd5) := ⟨_, _, rfl⟩
  rw [e5] at hw
  have hw : Sat R (pts b (snapCells y1 y2 sv sl ⟨none, 0, 0⟩) :: RRdAt r s bs rd5 :: Own sd 5 (b8 d) :: Own sl 3 (l.map (Value.int .i64)) :: Own sv 3 (v.map (Value.int .i64)) :: pts bt (snapCells 0 0 ⟨none, 0, 0⟩ ⟨none, 0, 0⟩ ⟨none, 0, 0⟩) :: Hs) w := hw.arr
  refine ⟨sd, rfl, ?_⟩
  refine store_rule hw (by kernel_rfl) rfl (by simp [Value.cells]) fun w hw => ?_
  have hw := hw.re (pts b (snapCells y1 y2 sv sl sd))
  have hm : decSnapM bs = (⟨y1, y2, v, l, d⟩, rd5) := by
    unfold decSnapM
    simp only [e1, e2, e3, e4, e5]
  refine (rrwhole_spec hs hw.swap).use ?_
  rintro _ w ⟨rfl, hw⟩
  have hw := hw.drop
  refine ⟨_, rfl, y1, y2, sv, sl, sd, At.own (eqS hw) (by exact ⟨rfl, rfl, rfl, rfl, rfl, trivial⟩), ?_⟩
  have bad : ¬ (rdWhole rd5 = true ∧ SnapM.ok ⟨y1, y2, v, l, d⟩ = true) → decSnap bs = (snap0, 6) := fun h => by
    unfold decSnap; rw [hm]; exact if_neg h
  have nl : ∀ {rd : Rd}, (∀ x ∈ rd.bs, 0 ≤ x ∧ x < 256) → (rdList rd).1.length ≤ 15 := fun {rd} h => by
    unfold rdList
    rw [rdMany_len]
    have := rdNum_val (most := 15) h (by omega)
    omega
  have vl := nl hb2
  have ll := nl hb3
  rw [e3] at vl
  dsimp only at ll
  rw [e4] at ll
  have hw : Sat R (Own sv 3 (v.map (Value.int .i64)) :: Own sl 3 (l.map (Value.int .i64)) :: Own sd 5 (b8 d) :: pts b (snapCells y1 y2 sv sl sd) :: pts bt (snapCells 0 0 ⟨none, 0, 0⟩ ⟨none, 0, 0⟩ ⟨none, 0, 0⟩) :: Hs) w := hw.arr
  have hdl : sd.len = d.length := by have := Own.len hw.drop.drop; simpa using this
  obtain ⟨R1, hr1, keep1, hw, back1⟩ := Own.lendI hw (by dsimp only at vl; omega)
  obtain ⟨R2, hr2, keep2, hw, back2⟩ := Own.lendI hw (by dsimp only at ll; omega)
  refine (rsnap_spec (i := y1) (t := y2) (sd := sd) (keep2 _ _ hr1) hr2 hw).use ?_
  rintro _ w ⟨rfl, hw⟩
  have hw := back1 (back2 hw)
  have hw : Sat R (pts bt (snapCells 0 0 ⟨none, 0, 0⟩ ⟨none, 0, 0⟩ ⟨none, 0, 0⟩) :: pts b (snapCells y1 y2 sv sl sd) :: SnapA ⟨y1, y2, v, l, d⟩ sv sl sd :: Hs) w := by
    have hw : Sat R (pts bt (snapCells 0 0 ⟨none, 0, 0⟩ ⟨none, 0, 0⟩ ⟨none, 0, 0⟩) :: pts b (snapCells y1 y2 sv sl sd) :: Own sv 3 (v.map (Value.int .i64)) :: Own sl 3 (l.map (Value.int .i64)) :: Own sd 5 (b8 d) :: Hs) w := hw.arr
    exact hw.cons fun _ h => h.cons fun _ h => Sat.snapA.2 h
  refine ⟨_, rfl, ?_⟩
  rw [hdl]
  refine Br.nb (fun h => ?_) (fun h1 => Br.nb (fun h => ?_) (fun h2 => ?_))
  · rw [bad fun h2 => by rw [h2.1] at h; cases h] at hK
    refine snapRet (sv := ⟨none, 0, 0⟩) (sl := ⟨none, 0, 0⟩) (sd := ⟨none, 0, 0⟩) hw fun w hw => hK _ _ _ _ (SnapA.zero hw.drop.drop)
  · rw [bad fun h2 => by rw [show snapOk y1 y2 v l d.length = true from h2.2] at h; cases h] at hK
    refine snapRet (sv := ⟨none, 0, 0⟩) (sl := ⟨none, 0, 0⟩) (sd := ⟨none, 0, 0⟩) hw fun w hw => hK _ _ _ _ (SnapA.zero hw.drop.drop)
  refine ⟨y1, y2, sv, sl, sd, At.own (eqS hw) (by exact ⟨rfl, rfl, rfl, rfl, rfl, trivial⟩), ?_⟩
  have e : decSnap bs = (⟨y1, y2, v, l, d⟩, 0) := by unfold decSnap; rw [hm]; exact if_pos ⟨h1, h2⟩
  rw [e] at hK
  exact snapRet hw fun w hw => hK sv sl sd w hw.drop

/-! ### The same -/
theorem sameI_spec {s t : Sl} {a b : List Int} (hs : RoI R s a) (ht : RoI R t b) (hw : Sat R Hs w) :
    Gets Tryz.prog 85 #[.slice s.a s.len s.cap, .slice t.a t.len t.cap] w fun v w' => v = .bool (decide (a = b)) ∧ Sat R Hs w' := by
  have hsl := hs.len
  have htl := ht.len
  have hbd := hs.bound
  apply call85
  refine Br.ne (fun h => ⟨?_, hw⟩) (fun h => ?_)
  · rw [decide_eq_false fun e => h (by rw [hsl, htl, e])]
  have hl : a.length = b.length := by omega
  refine ⟨fun i w => ∃ j : Nat, i = j ∧ j ≤ a.length ∧ a.take j = b.take j ∧ Sat R Hs w, fun i _ => a.length - i.toNat, ⟨0, rfl, by omega, by simp, hw⟩, ?_⟩
  clear hw
  rintro _ _ w ⟨j, rfl, hj, hn, hw⟩
  refine Br.d (fun h => ?_) (fun h => ?_)
  · have hj2 : j < a.length := by omega
    have hj3 : j < b.length := by omega
    refine drw_rule hw fun w hw => ?_
    refine hs.idx selfS hj2 (ht.idx selfS hj3 ?_)
    refine Br.ne (fun h => ⟨?_, hw⟩) (fun h => ?_)
    · rw [decide_eq_false]; rintro rfl; exact h rfl
    · rw [wrap64 (by omega) (by omega)]
      refine ⟨⟨j + 1, by omega, by omega, ?_, hw⟩, by dsimp only; omega⟩
      rw [List.take_add_one, List.take_add_one, List.getElem?_eq_getElem hj2, List.getElem?_eq_getElem hj3, hn, h]
  · rw [List.take_of_length_le (by omega), List.take_of_length_le (by omega)] at hn
    rw [decide_eq_true hn]; exact ⟨rfl, hw⟩

theorem sameG_spec {sv sl tv tl : Sl} {v l v' l' : List Int} (h1 : RoI R sv v) (h2 : RoI R sl l) (h3 : RoI R tv v') (h4 : RoI R tl l') (hw : Sat R Hs w) :
    Gets Tryz.prog 53 #[.agg #[.slice sv.a sv.len sv.cap, .slice sl.a sl.len sl.cap], .agg #[.slice tv.a tv.len tv.cap, .slice tl.a tl.len tl.cap]] w fun r w' => r = .bool (decide (v = v' ∧ l = l')) ∧ Sat R Hs w' := by
  apply call53
  refine new_rule hw fun p w hw => new_rule hw fun q w hw => ?_
  have hw : Sat R (pts q (grpCells tv tl) :: pts p (grpCells sv sl) :: Hs) w := hw
  refine ⟨sv, At.own (eqS hw) (by exact ⟨rfl, trivial⟩), tv, At.own (eqS hw) (by exact ⟨rfl, trivial⟩), ?_⟩
  refine (sameI_spec h1 h3 hw).use ?_
  rintro _ w ⟨rfl, hw⟩
  refine ⟨_, rfl, sl, At.own (eqS hw) (by exact ⟨rfl, trivial⟩), tl, At.own (eqS hw) (by exact ⟨rfl, trivial⟩), ?_⟩
  refine (sameI_spec h2 h4 hw).use ?_
  rintro _ w ⟨rfl, hw⟩
  refine ⟨_, rfl, Br.d (fun h => ⟨?_, hw.drop.drop⟩) (fun h => ⟨?_, hw.drop.drop⟩)⟩
  · congr 1; rw [decide_eq_decide]; exact ⟨fun h5 => ⟨h, h5⟩, fun h5 => h5.2⟩
  · rw [decide_eq_false fun h5 => h h5.1]

theorem bs_inj {a b : List Int} (ha : ∀ x ∈ a, 0 ≤ x ∧ x < 256) (hb : ∀ x ∈ b, 0 ≤ x ∧ x < 256) : ((VC.strOf a).toList == (VC.strOf b).toList) = decide (a = b) := by
  rw [str_eql, decide_eq_decide]
  exact ⟨strOf_inj ha hb, fun h => by rw [h]⟩

theorem SnapM.ext' {x y : SnapM} (h1 : x.idx = y.idx) (h2 : x.term = y.term) (h3 : x.vot = y.vot) (h4 : x.lrn = y.lrn) (h5 : x.data = y.data) : x = y := by
  cases x; cases y; simp_all
instance : DecidableEq SnapM := fun x y =>
  if h : x.idx = y.idx ∧ x.term = y.term ∧ x.vot = y.vot ∧ x.lrn = y.lrn ∧ x.data = y.data then .isTrue (SnapM.ext' h.1 h.2.1 h.2.2.1 h.2.2.2.1 h.2.2.2.2) else .isFalse (fun e => h (by subst e; exact ⟨rfl, rfl, rfl, rfl, rfl⟩))

theorem sameS_spec {x y : SnapM} {sv sl sd tv tl td : Sl} (hx : ∀ z ∈ x.data, 0 ≤ z ∧ z < 256) (hy : ∀ z ∈ y.data, 0 ≤ z ∧ z < 256) (h1 : RoI R sv x.vot) (h2 : RoI R sl x.lrn) (h3 : RoI R tv y.vot) (h4 : RoI R tl y.lrn) (h5 : Ro R sd (b8 x.data)) (h6 : Ro R td (b8 y.data)) (hw : Sat R Hs w) :
    Gets Tryz.prog 13 #[.agg (snapVals x.idx x.term sv sl sd).toArray, .agg (snapVals y.idx y.term tv tl td).toArray] w fun r w' => r = .bool (decide (x = y)) ∧ Sat R Hs w' := by
  apply call13
  refine new_rule hw fun p w hw => new_rule hw fun q w hw => ?_
  have hw : Sat R (pts q (snapCells y.idx y.term tv tl td) :: pts p (snapCells x.idx x.term sv sl sd) :: Hs) w := hw
  refine ⟨sv, sl, At.own (eqS hw) (by exact ⟨rfl, rfl, trivial⟩), tv, tl, At.own (eqS hw) (by exact ⟨rfl, rfl, trivial⟩), ?_⟩
  refine (sameG_spec h1 h2 h3 h4 hw).use ?_
  rintro _ w ⟨rfl, hw⟩
  refine ⟨_, rfl, x.idx, At.own (eqS hw) (by exact ⟨rfl, trivial⟩), y.idx, At.own (eqS hw) (by exact ⟨rfl, trivial⟩), Br.e (fun a1 => ?_) (fun a => ⟨by rw [decide_eq_false fun e => a (by rw [e])], hw.drop.drop⟩)⟩
  refine ⟨x.term, At.own (eqS hw) (by exact ⟨rfl, trivial⟩), y.term, At.own (eqS hw) (by exact ⟨rfl, trivial⟩), Br.e (fun a2 => Br.d (fun a3 => ?_) (fun a => ⟨by rw [decide_eq_false fun e => a (by rw [e]; exact ⟨rfl, rfl⟩)], hw.drop.drop⟩)) (fun a => ⟨by rw [decide_eq_false fun e => a (by rw [e])], hw.drop.drop⟩)⟩
  refine ⟨sd, At.own (eqS hw) (by exact ⟨rfl, trivial⟩), VC.strOf x.data, strR (eqS hw) h5, td, At.own (eqS hw) (by exact ⟨rfl, trivial⟩), VC.strOf y.data, strR (eqS hw) h6, ?_, hw.drop.drop⟩
  rw [bs_inj hx hy]
  congr 1
  rw [decide_eq_decide]
  exact ⟨fun h => SnapM.ext' a1 a2 a3.1 a3.2 h, fun h => by rw [h]⟩

end Go.Proofs.YtgfneeoponiibaaGreat
/- SL, part 14: memory of one's own, made into memory that is only read, for good. No condition. -/
namespace Go.VC

variable {P : Program} {R R' R'' : Cx} {Hs Rest : List HP} {w : World} {s : Sl} {T : TypeId}

/-- R' has all the memory that R has, to be read. -/
structure Cx.Ext (R R' : Cx) : Prop where
  m : ∀ b o, R.m b = some o → R'.m b = some o
  like : R'.like R
theorem Cx.Ext.refl : R.Ext R := ⟨fun _ _ h => h, rfl, rfl, rfl⟩
theorem Cx.Ext.trans (h : R.Ext R') (h' : R'.Ext R'') : R.Ext R'' :=
  ⟨fun b o hb => h'.m b o (h.m b o hb), h.like.1.trans h'.like.1, h.like.2.1.trans h'.like.2.1, h.like.2.2.trans h'.like.2.2⟩
theorem Cx.Ext.add {h : Heap} : R.Ext (R.add h) := ⟨fun b o hb => by simp only [Cx.add, Heap.add, hb], rfl, rfl, rfl⟩
theorem Cx.Ext.back (h : R.Ext R') (hw : Sat R' Hs w) : Sat R Hs w := Sat.ro_of h.m h.like hw
theorem Cx.Ext.ro {xs : List Value} (h : R.Ext R') (a : Ro R s xs) : Ro R' s xs :=
  ⟨a.len, a.bound, fun hx => let ⟨b, off, l, T, fr, h1, h2, h3⟩ := a.mem hx; ⟨b, off, l, T, fr, h1, h.m _ _ h2, h3⟩⟩
theorem Cx.Ext.roN {n : Nat} {xs : List (List Value)} (h : R.Ext R') (a : RoN n R s xs) : RoN n R' s xs :=
  ⟨a.wid, a.len, fun hx => let ⟨b, off, l, T, fr, h1, h2, h3⟩ := a.mem hx; ⟨b, off, l, T, fr, h1, h.m _ _ h2, h3⟩⟩
theorem Cx.Ext.slR {xs : List Value} (h : R.Ext R') (a : SlR R.m s xs) : SlR R'.m s xs :=
  ⟨a.len, a.cap, fun hx => let ⟨b, off, l, T, fr, h1, h2, h3⟩ := a.mem hx; ⟨b, off, l, T, fr, h1, h.m _ _ h2, h3⟩⟩
/-- For good. -/
theorem Reads.leak {xs : List Value} (h : Sat R (Reads s xs :: Hs) w) : ∃ R' : Cx, R.Ext R' ∧ SlR R'.m s xs ∧ Sat R' Hs w := by
  obtain ⟨x, _, h1, h2, _⟩ := Reads.lend h
  exact ⟨_, .add, h1, h2⟩
theorem Own.leak {xs : List Value} (h : Sat R (Own s T xs :: Hs) w) : ∃ R' : Cx, R.Ext R' ∧ SlR R'.m s xs ∧ Sat R' Hs w := Reads.leak (Own.reads h)
theorem OwnN.leak {n : Nat} {rows : List (List Value)} (h : Sat R (OwnN n s T rows :: Hs) w) : ∃ R' : Cx, R.Ext R' ∧ RoN n R' s rows ∧ Sat R' Hs w := by
  obtain ⟨R', h1, ⟨x, rfl⟩, h2, _⟩ := OwnN.lend h
  exact ⟨_, .add, h1, h2⟩
theorem pts.leak {b : Nat} {o : Obj} (h : Sat R (pts b o :: Hs) w) : ∃ R' : Cx, R.Ext R' ∧ R'.m b = some o ∧ Sat R' Hs w := by
  obtain ⟨h1, h2⟩ := Sat.lend.1 h
  exact ⟨_, .add, Cx.lent h1, h2⟩

end Go.VC
/- Package keep: snapshots on a disk. Condition: bounds on how many files there are; the files' bytes are bytes. -/
namespace Go.Proofs.YtgfneeoponiibaaGreat
open Go Go.VC

variable {R : Cx} {Hs Rest : List HP} {w : World}

def snapN : ByteArray := ByteArray.mk #[115, 110, 97, 112]
def saveSnapD (st : DS) (x : SnapM) : DS × Int := if x.ok = true then writeD st snapN (snapB x) else (st, 1)
def loadSnapD (st : DS) : SnapM × Int := match oneD st snapN with | (some b, _) => decSnap b | (none, e) => (snap0, e)

theorem saveSnap_spec {d : Nat} {st : DS} {x : SnapM} {sv sl sd : Sl} (i : Inv st) (hc : st.fs.length ≤ 1000000) (hv : RoI R sv x.vot) (hl : RoI R sl x.lrn) (hd : Ro R sd (b8 x.data)) (hxb : ∀ z ∈ x.data, 0 ≤ z ∧ z < 256) (hw : Sat R (DiskAt d st :: Hs) w) :
    Gets Tryz.prog 16 #[.pointer (some ⟨d, 0, none⟩), .agg (snapVals x.idx x.term sv sl sd).toArray] w fun r w' => r = .int .i64 (saveSnapD st x).2 ∧ Sat R (DiskAt d (saveSnapD st x).1 :: Hs) w' := by
  apply call16
  refine new_rule hw fun bh w hw => ?_
  have hw : Sat R (pts bh (snapCells x.idx x.term sv sl sd) :: DiskAt d st :: Hs) w := hw
  refine ⟨x.idx, x.term, sv, sl, sd, At.own (eqS hw) (by exact ⟨rfl, rfl, rfl, rfl, rfl, trivial⟩), ?_⟩
  have key : Gets Tryz.prog 56 #[.pointer (some ⟨d, 0, none⟩), .string snapN, .agg (snapVals x.idx x.term sv sl sd).toArray, .func (.func 9) #[] #[]] w fun r w' => r = .int .i64 (saveSnapD st x).2 ∧ Sat R (DiskAt d (saveSnapD st x).1 :: Hs) w' := by
    apply call56
    refine new_rule hw.drop fun bx w hw => ?_
    have hw : Sat R (pts bx (snapCells x.idx x.term sv sl sd) :: DiskAt d st :: Hs) w := hw
    refine ⟨x.idx, x.term, sv, sl, sd, At.own (eqS hw) (by exact ⟨rfl, rfl, rfl, rfl, rfl, trivial⟩), CalW.mk (by kernel_rfl) ?_⟩
    refine (enc_spec hv hl hd hw.drop).use ?_
    rintro _ w (⟨hno, rfl, hw⟩ | ⟨hok, s, rfl, hw⟩)
    · refine ⟨⟨none, 0, 0⟩, 1, rfl, fun _ => False, Br.f rfl (Br.ne (fun _ => ?_) (fun h => by cases h)), fun _ _ h => h.elim⟩
      unfold saveSnapD
      rw [if_neg (by rw [hno]; simp)]
      exact ⟨rfl, hw⟩
    · obtain ⟨R', hr2, _, hw, back⟩ := Own.lend hw (by have := snapB_len hok; rw [List.length_map]; omega)
      refine ⟨s, 0, rfl, Sat R' (DiskAt d st :: Hs), Br.f rfl (Br.ne (fun h => absurd rfl h) (fun _ => hw)), ?_⟩
      intro _ w hw
      have := writeT_of (name := snapN) (b := snapB x) (t := s) (K := fun r w' => r = .int .i64 (saveSnapD st x).2 ∧ Sat R (DiskAt d (saveSnapD st x).1 :: Hs) w') i hc (by decide) (snapB_bd hok hxb) hr2 hw (fun w' hw' => by
        unfold saveSnapD
        rw [if_pos hok]
        exact ⟨rfl, (back hw').drop⟩)
      exact this
  refine key.use ?_
  rintro _ w ⟨rfl, hw⟩
  exact ⟨_, rfl, rfl, hw⟩

theorem BytesL.first {l : Sl} {x : List Int} (h : Sat R (BytesL l [x] :: Hs) w) : ∃ (s : Sl) (R' : Cx), R.Ext R' ∧ Ro R' l [Sl.v s] ∧ SlR R'.m s (b8 x) ∧ Sat R' Hs w := by
  obtain ⟨ps, hps, hq⟩ := Sat.bytesL.1 h
  clear h
  match ps, hps, hq with
  | [(s, y)], hps, hq =>
    obtain rfl : y = x := by simpa using hps
    have h0 : Sat R (Own l 25 [Sl.v s] :: Star [Own s 5 (b8 y)] :: Hs) w := hq
    obtain ⟨R1, e1, h1, h2⟩ := Own.leak h0
    have h3 : Sat R1 (Own s 5 (b8 y) :: Hs) w := Sat.star.1 h2
    obtain ⟨R2, e2, h4, h5⟩ := Own.leak h3
    exact ⟨s, R2, e1.trans e2, e2.ro (h1.ro (by simp)), h4, h5⟩

abbrev zS (b : Nat) : HP := pts b (snapCells 0 0 ⟨none, 0, 0⟩ ⟨none, 0, 0⟩ ⟨none, 0, 0⟩)
theorem snapZero {bz bt : Nat} {e : Int} {K : Value → World → Prop} (hw : Sat R (zS bz :: zS bt :: Hs) w) (hk : ∀ w, Sat R (SnapA snap0 ⟨none, 0, 0⟩ ⟨none, 0, 0⟩ ⟨none, 0, 0⟩ :: Hs) w → K (.tuple #[.agg (snapVals 0 0 ⟨none, 0, 0⟩ ⟨none, 0, 0⟩ ⟨none, 0, 0⟩).toArray, .int .i64 e]) w) :
    ∃ t15 : Int, ∃ t15_1 : Int, ∃ t15_2 : Sl, ∃ t15_3 : Sl, ∃ t15_4 : Sl, (At (fun w' => w' = w) ⟨bz, 0, none⟩ [.int .i64 t15, .int .i64 t15_1, .slice t15_2.a t15_2.len t15_2.cap, .slice t15_3.a t15_3.len t15_3.cap, .slice t15_4.a t15_4.len t15_4.cap]) ∧
    ∃ w_3 : World, ((Instr.storeAt 27 (.pointer ((some ⟨bt, 0, none⟩))) (.agg #[.int .i64 t15, .int .i64 t15_1, .slice t15_2.a t15_2.len t15_2.cap, .slice t15_3.a t15_3.len t15_3.cap, .slice t15_4.a t15_4.len t15_4.cap])).run Tryz.prog w = .ok () w_3) ∧
    ∃ t7 : Int, ∃ t7_1 : Int, ∃ t7_2 : Sl, ∃ t7_3 : Sl, ∃ t7_4 : Sl, (At (fun w' => w' = w_3) ⟨bt, 0, none⟩ [.int .i64 t7, .int .i64 t7_1, .slice t7_2.a t7_2.len t7_2.cap, .slice t7_3.a t7_3.len t7_3.cap, .slice t7_4.a t7_4.len t7_4.cap]) ∧
    K (.tuple #[.agg #[.int .i64 t7, .int .i64 t7_1, .slice t7_2.a t7_2.len t7_2.cap, .slice t7_3.a t7_3.len t7_3.cap, .slice t7_4.a t7_4.len t7_4.cap], .int .i64 e]) w_3 := by
  refine ⟨0, 0, ⟨none, 0, 0⟩, ⟨none, 0, 0⟩, ⟨none, 0, 0⟩, At.own (eqS hw) (by exact ⟨rfl, rfl, rfl, rfl, rfl, trivial⟩), ?_⟩
  exact snapRet hw.drop fun w hw => hk w (SnapA.zero hw)

theorem recOf_of_one {l : Sl} {bs : List Int} {n : Int} (hlen : l.len = (scan bs).length) (h1 : (l.len : Int) = 1) (h2 : ((scanLen (scan bs) : Nat) : Int) = n) (hn : n = bs.length) : ∃ y, scan bs = [y] ∧ recOf bs = some y := by
  match hsc : scan bs with
  | [y] =>
    refine ⟨y, rfl, ?_⟩
    unfold recOf
    rw [hsc]
    simp only
    rw [hsc] at h2
    rw [if_pos (by omega)]
  | [] => rw [hsc] at hlen; rw [hlen] at h1; cases h1
  | a :: b :: c => rw [hsc] at hlen; rw [hlen] at h1; simp at h1; omega

theorem readSnap_spec {d : Nat} {st : DS} (i : Inv st) (hb : ByOk st.fs) (hw : Sat R (DiskAt d st :: Hs) w) :
    Gets Tryz.prog 59 #[.pointer (some ⟨d, 0, none⟩), .string snapN, .func (.func 11) #[] #[]] w fun r w' => ∃ sv sl sd : Sl, r = .tuple #[.agg (snapVals (loadSnapD st).1.idx (loadSnapD st).1.term sv sl sd).toArray, .int .i64 (loadSnapD st).2] ∧ Sat R (SnapA (loadSnapD st).1 sv sl sd :: DiskAt d st :: Hs) w' := by
  apply call59
  suffices H : ∀ K : Value → World → Prop, (∀ sv sl sd w', Sat R (SnapA (loadSnapD st).1 sv sl sd :: DiskAt d st :: Hs) w' → K (.tuple #[.agg (snapVals (loadSnapD st).1.idx (loadSnapD st).1.term sv sl sd).toArray, .int .i64 (loadSnapD st).2]) w') → B59 (some ⟨d, 0, none⟩) snapN (.func (.func 11) #[] #[]) K w from H _ fun sv sl sd w' hw' => ⟨sv, sl, sd, rfl, hw'⟩
  intro K hK
  refine new_rule hw fun bt w hw => new_rule hw fun bz w hw => ?_
  have hw : Sat R (zS bz :: zS bt :: DiskAt d st :: Hs) w := hw
  refine Br.f rfl ?_
  have hw2 : Sat R (DiskAt d st :: zS bz :: zS bt :: Hs) w := hw.arr
  refine (read_spec (k := snapN) i hw2).use ?_
  rintro _ w ⟨t, rfl, hw⟩
  have hby := by_read hb snapN
  have hbl := readD_len i snapN
  refine ⟨t, _, rfl, ?_⟩
  refine Br.mk (fun h => ?_) (fun h => Br.mk (fun h2 => ?_) (fun h2 => ?_))
  · have he : (readD st snapN).2 = 0 := by simpa using h
    obtain ⟨R1, e1, hs, hw⟩ := Own.leak hw
    have hsl : t.len = (readD st snapN).1.length := by have := hs.len; simpa using this
    refine (scan_spec hby (by omega) hs hw).use ?_
    rintro _ w ⟨l, rfl, hw⟩
    have hll := scanLen_le _ (readD st snapN).1 (Nat.le_refl _)
    have hl8 := len_scanLen (scan (readD st snapN).1)
    have hlen := BytesL.reads hw (by omega)
    refine ⟨l, _, rfl, ?_⟩
    have bad : recOf (readD st snapN).1 = none → loadSnapD st = (snap0, 6) := fun hr => by unfold loadSnapD oneD; rw [if_pos he, hr]
    have hwz : Sat R1 (zS bz :: zS bt :: DiskAt d st :: BytesL l (scan (readD st snapN).1) :: Hs) w := hw.arr
    refine Br.ne (fun h1 => ?_) (fun h1 => ?_)
    · have hr : recOf (readD st snapN).1 = none := by
        unfold recOf
        split
        · rename_i y hy; rw [hy] at hlen; rw [hlen] at h1; exact absurd rfl h1
        · rfl
      rw [bad hr] at hK
      exact snapZero hwz fun w hw => hK _ _ _ w (e1.back (hw.cons fun _ h => h.cons fun _ h => h.drop))
    · refine Br.ne (fun h2 => ?_) (fun h2 => ?_)
      · have hr : recOf (readD st snapN).1 = none := by
          unfold recOf
          split
          · rw [if_neg]; intro h3; rw [h3, hsl] at h2; exact h2 rfl
          · rfl
        rw [bad hr] at hK
        exact snapZero hwz fun w hw => hK _ _ _ w (e1.back (hw.cons fun _ h => h.cons fun _ h => h.drop))
      · obtain ⟨y, hy, hrec⟩ := recOf_of_one hlen h1 h2 (by rw [hsl])
        obtain ⟨hyl, hyb, _, _⟩ := recOf_ok hby hrec
        rw [hy] at hw
        obtain ⟨s, R2, e2, hl2, hs2, hw⟩ := BytesL.first hw
        have := Ro.idxS (S := fun w' => w' = w) (ms := [s]) hl2 (eqS hw) (k := 0) (by simp) (F := fun t => t = s) rfl
        obtain ⟨h0, h1', this⟩ := this.out
        obtain ⟨a, ha, t', hat, rfl⟩ := this.out
        refine Rng.mk h0 h1' (NilP.mk ha ⟨_, hat, CalW.mk (by kernel_rfl) ?_⟩)
        refine (dec_spec hyb (hs2.ro (by rw [List.length_map]; omega)) (by omega) hw).use ?_
        rintro _ w ⟨sv, sl, sd, rfl, hw⟩
        refine ⟨_, _, _, _, _, _, rfl, ?_⟩
        have hload : loadSnapD st = decSnap y := by unfold loadSnapD oneD; rw [if_pos he, hrec]
        rw [hload] at hK
        have hwz : Sat R2 (zS bt :: SnapA (decSnap y).1 sv sl sd :: DiskAt d st :: zS bz :: Hs) w := hw.arr
        exact snapRet hwz fun w hw => hK _ _ _ w ((e1.trans e2).back (hw.cons fun _ h => h.cons fun _ h => h.drop))
  · have he : (readD st snapN).2 = 2 := by simpa using h2
    have hload : loadSnapD st = (snap0, 0) := by unfold loadSnapD oneD; rw [if_neg (by omega), if_pos he]
    have hwz : Sat R (zS bz :: zS bt :: DiskAt d st :: Hs) w := hw.drop.arr
    rw [hload] at hK
    exact snapZero hwz fun w hw => hK _ _ _ w hw
  · have h : ¬ (readD st snapN).2 = 0 := by simpa using h
    have h2 : ¬ (readD st snapN).2 = 2 := by simpa using h2
    have hload : loadSnapD st = (snap0, (readD st snapN).2) := by unfold loadSnapD oneD; rw [if_neg h, if_neg h2]
    have hwz : Sat R (zS bz :: zS bt :: DiskAt d st :: Hs) w := hw.drop.arr
    rw [hload] at hK
    exact snapZero hwz fun w hw => hK _ _ _ w hw

theorem loadSnap_spec {d : Nat} {st : DS} (i : Inv st) (hb : ByOk st.fs) (hw : Sat R (DiskAt d st :: Hs) w) :
    Gets Tryz.prog 18 #[.pointer (some ⟨d, 0, none⟩)] w fun r w' => ∃ sv sl sd : Sl, r = .tuple #[.agg (snapVals (loadSnapD st).1.idx (loadSnapD st).1.term sv sl sd).toArray, .int .i64 (loadSnapD st).2] ∧ Sat R (SnapA (loadSnapD st).1 sv sl sd :: DiskAt d st :: Hs) w' := by
  apply call18
  suffices H : ∀ K : Value → World → Prop, (∀ sv sl sd w', Sat R (SnapA (loadSnapD st).1 sv sl sd :: DiskAt d st :: Hs) w' → K (.tuple #[.agg (snapVals (loadSnapD st).1.idx (loadSnapD st).1.term sv sl sd).toArray, .int .i64 (loadSnapD st).2]) w') → B18 (some ⟨d, 0, none⟩) K w from H _ fun sv sl sd w' hw' => ⟨sv, sl, sd, rfl, hw'⟩
  intro K hK
  refine new_rule hw fun b2 w hw => ?_
  have hw : Sat R (zS b2 :: DiskAt d st :: Hs) w := hw
  refine (readSnap_spec i hb hw.swap).use ?_
  rintro _ w ⟨sv, sl, sd, rfl, hw⟩
  refine ⟨_, _, _, _, _, _, rfl, ?_⟩
  have hw : Sat R (zS b2 :: SnapA (loadSnapD st).1 sv sl sd :: DiskAt d st :: Hs) w := hw.arr
  exact snapRet hw fun w hw => hK _ _ _ w hw

end Go.Proofs.YtgfneeoponiibaaGreat
/- The formulas of functions of this seat's translation, printed by a program of mine off the translation; each is proved equal to 'fnF' of the function's body, so it is enough for the call. No condition. -/
namespace Go.Proofs.YtgfneeoponiibaaGreat
open Go Go.VC
set_option linter.unusedVariables false
/-- jetway/jetwayref04.New. -/
def B23 (room0 : Int) (K : Value → World → Prop) (w : World) : Prop :=
  Br (decide (room0 < 1))
   (K (.tuple #[.pointer none, .int .i64 1]) w)
   (Br (decide (room0 > 16777216))
     (K (.tuple #[.pointer none, .int .i64 1]) w)
     (New (.cells #[.int .i64 room0, .slice none 0 0, .int .i64 ((-1)), .int .i64 ((-1)), .bool false] 66 (0, 0)) (fun b_t12 w_1 =>
      K (.tuple #[.pointer ((some ⟨b_t12, 0, none⟩)), .int .i64 0]) w_1) w))

def sk23 : Sk := .leaf
theorem ok23 : fnOk Tryz.prog Tryz.f23.ntmps Tryz.f23 sk23 = true := by kernel_rfl
theorem eq23 (room0 : Int) (K : Value → World → Prop) (w : World) : fnF Tryz.prog cl Tryz.f23 sk23 [.int .i64 room0] K w = B23 room0 K w := by kernel_rfl
theorem call23 (room0 : Int) (K : Value → World → Prop) (w : World) (h : B23 room0 K w) : Gets Tryz.prog 23 #[.int .i64 room0] w K :=
  calls_of (sk := sk23) cl_ok mixed Tryz.func23 ok23 (args := [.int .i64 room0]) (Nat.le_of_ble_eq_true (by kernel_rfl)) (by rw [eq23]; exact h)

/-- (*jetway/jetwayref04.Disk).Append. -/
def B31 (d0 : Option Addr) (name1 : ByteArray) (b2 : Sl) (K : Value → World → Prop) (w : World) : Prop :=
  Calls Tryz.prog 67 #[.pointer d0, .string name1, .string name1] w fun e w_1 =>
  ∃ t12 : Int, (e = .returned (.int .i64 t12)) ∧
  Br (t12 != 0)
   (K (.int .i64 t12) w_1)
   (Drw w_1 fun S w_2 =>
    NilP d0 fun a_t22 =>
    ∃ t24 : Int, (At S (Addr.add a_t22 0) [.int .i64 t24]) ∧
    Calls Tryz.prog 36 #[.pointer d0] w_2 fun e_1 w_3 =>
    ∃ t17 : Int, (e_1 = .returned (.int .i64 t17)) ∧
    (S w_3) ∧
    Br (decide (IntKind.i64.wrap (t17 + (↑b2.len : Int)) > t24))
     (K (.int .i64 3) w_3)
     (∃ (J : World → Prop), (Calls Tryz.prog 68 #[.pointer d0, .string name1] w_3 fun e_2 w_4 =>
        ∃ t28 : Int, (e_2 = .returned (.int .i64 t28)) ∧
        Br (decide (t28 < 0))
         (Calls Tryz.prog 69 #[.pointer d0, .agg #[.string name1, .slice none 0 0, .int .i64 0]] w_4 fun e_3 w_5 =>
          (e_3 = .returned (.tuple #[])) ∧
          J  w_5)
         (J  w_4)) ∧
      ∀ (z : Env)  (w_6 : World), J  w_6 →
      Calls Tryz.prog 68 #[.pointer d0, .string name1] w_6 fun e_4 w_7 =>
      ∃ t36 : Int, (e_4 = .returned (.int .i64 t36)) ∧
      Drw w_7 fun S_1 w_8 =>
      NilP d0 fun a_t38 =>
      ∃ t40 : Sl, (At S_1 ⟨a_t38.block, a_t38.off + 1, none⟩ [.slice t40.a t40.len t40.cap]) ∧
      NilP d0 fun a_t44 =>
      ∃ t46 : Sl, (At S_1 ⟨a_t44.block, a_t44.off + 1, none⟩ [.slice t46.a t46.len t46.cap]) ∧
      Rng t36 t46.len (NilP t46.a fun a_t48 =>
      ∃ t50 : Sl, (At S_1 ⟨(a_t48.add (mulS t36.toNat 3)).block, (a_t48.add (mulS t36.toNat 3)).off + 1, none⟩ [.slice t50.a t50.len t50.cap]) ∧
      New (.cells #[] 5 (0, 0)) (fun b_t42 w_9 =>
      (S_1 w_9) ∧
      ∃ w_10 : World, ∃ t51 : Sl, ((Builtin.append_ #[25, 25] 25 #[.slice ((some ⟨b_t42, 0, none⟩)) 0 0, .slice t50.a t50.len t50.cap]).run Tryz.prog w_9 = .ok (.slice t51.a t51.len t51.cap) w_10) ∧
      (S_1 w_10) ∧
      ∃ w_11 : World, ∃ t53 : Sl, ((Builtin.append_ #[25, 25] 25 #[.slice t51.a t51.len t51.cap, .slice b2.a b2.len b2.cap]).run Tryz.prog w_10 = .ok (.slice t53.a t53.len t53.cap) w_11) ∧
      (S_1 w_11) ∧
      Rng t36 t40.len (NilP t40.a fun a_t54 =>
      ∃ w_12 : World, ((Instr.storeAt 25 (.pointer ((some ⟨(a_t54.add (mulS t36.toNat 3)).block, (a_t54.add (mulS t36.toNat 3)).off + 1, none⟩))) (.slice t53.a t53.len t53.cap)).run Tryz.prog w_11 = .ok () w_12) ∧
      K (.int .i64 0) w_12)) w_8)))

def sk31 : Sk := (.seq .leaf (.seq .leaf (.seq .leaf (.seq .leaf (.cut [] [] [26, 27, 28, 29, 30, 31, 32, 33] .leaf .leaf)))))
theorem ok31 : fnOk Tryz.prog Tryz.f31.ntmps Tryz.f31 sk31 = true := by kernel_rfl
theorem eq31 (d0 : Option Addr) (name1 : ByteArray) (b2 : Sl) (K : Value → World → Prop) (w : World) : fnF Tryz.prog cl Tryz.f31 sk31 [.pointer d0, .string name1, .slice b2.a b2.len b2.cap] K w = B31 d0 name1 b2 K w := by kernel_rfl
theorem call31 (d0 : Option Addr) (name1 : ByteArray) (b2 : Sl) (K : Value → World → Prop) (w : World) (h : B31 d0 name1 b2 K w) : Gets Tryz.prog 31 #[.pointer d0, .string name1, .slice b2.a b2.len b2.cap] w K :=
  calls_of (sk := sk31) cl_ok mixed Tryz.func31 ok31 (args := [.pointer d0, .string name1, .slice b2.a b2.len b2.cap]) (Nat.le_of_ble_eq_true (by kernel_rfl)) (by rw [eq31]; exact h)

/-- (*jetway/jetwayref04.Disk).Sync. -/
def B100 (d0 : Option Addr) (name1 : ByteArray) (K : Value → World → Prop) (w : World) : Prop :=
  Calls Tryz.prog 67 #[.pointer d0, .string name1, .string name1] w fun e w_1 =>
  ∃ t10 : Int, (e = .returned (.int .i64 t10)) ∧
  Br (t10 != 0)
   (K (.int .i64 t10) w_1)
   (Calls Tryz.prog 68 #[.pointer d0, .string name1] w_1 fun e_1 w_2 =>
    ∃ t16 : Int, (e_1 = .returned (.int .i64 t16)) ∧
    Br (decide (t16 < 0))
     (K (.int .i64 2) w_2)
     (Drw w_2 fun S w_3 =>
      NilP d0 fun a_t20 =>
      ∃ t22 : Sl, (At S ⟨a_t20.block, a_t20.off + 1, none⟩ [.slice t22.a t22.len t22.cap]) ∧
      NilP d0 fun a_t25 =>
      ∃ t27 : Sl, (At S ⟨a_t25.block, a_t25.off + 1, none⟩ [.slice t27.a t27.len t27.cap]) ∧
      Rng t16 t27.len (NilP t27.a fun a_t29 =>
      ∃ t31 : Sl, (At S ⟨(a_t29.add (mulS t16.toNat 3)).block, (a_t29.add (mulS t16.toNat 3)).off + 1, none⟩ [.slice t31.a t31.len t31.cap]) ∧
      Rng t16 t22.len (NilP t22.a fun a_t33 =>
      ∃ w_4 : World, ((Instr.storeAt 3 (.pointer ((some ⟨(a_t33.add (mulS t16.toNat 3)).block, (a_t33.add (mulS t16.toNat 3)).off + 2, none⟩))) (.int .i64 ((↑t31.len : Int)))).run Tryz.prog w_3 = .ok () w_4) ∧
      K (.int .i64 0) w_4))))

def sk100 : Sk := .leaf
theorem ok100 : fnOk Tryz.prog Tryz.f100.ntmps Tryz.f100 sk100 = true := by kernel_rfl
theorem eq100 (d0 : Option Addr) (name1 : ByteArray) (K : Value → World → Prop) (w : World) : fnF Tryz.prog cl Tryz.f100 sk100 [.pointer d0, .string name1] K w = B100 d0 name1 K w := by kernel_rfl
theorem call100 (d0 : Option Addr) (name1 : ByteArray) (K : Value → World → Prop) (w : World) (h : B100 d0 name1 K w) : Gets Tryz.prog 100 #[.pointer d0, .string name1] w K :=
  calls_of (sk := sk100) cl_ok mixed Tryz.func100 ok100 (args := [.pointer d0, .string name1]) (Nat.le_of_ble_eq_true (by kernel_rfl)) (by rw [eq100]; exact h)

/-- (*jetway/jetwayref04.Disk).Rename. -/
def B101 (d0 : Option Addr) (from1 : ByteArray) (to2 : ByteArray) (K : Value → World → Prop) (w : World) : Prop :=
  Calls Tryz.prog 67 #[.pointer d0, .string from1, .string to2] w fun e w_1 =>
  ∃ t14 : Int, (e = .returned (.int .i64 t14)) ∧
  Br (t14 != 0)
   (K (.int .i64 t14) w_1)
   (Calls Tryz.prog 68 #[.pointer d0, .string from1] w_1 fun e_1 w_2 =>
    ∃ t20 : Int, (e_1 = .returned (.int .i64 t20)) ∧
    Br (decide (t20 < 0))
     (K (.int .i64 2) w_2)
     (Br (from1.toList == to2.toList)
       (K (.int .i64 0) w_2)
       (NilP d0 fun a_t27 =>
        ∃ t29 : Sl, (At (fun w' => w' = w_2) ⟨a_t27.block, a_t27.off + 1, none⟩ [.slice t29.a t29.len t29.cap]) ∧
        Rng t20 t29.len (NilP t29.a fun a_t31 =>
        ∃ t32 : ByteArray, ∃ t32_1 : Sl, ∃ t32_2 : Int, (At (fun w' => w' = w_2) (Addr.add a_t31 (mulS t20.toNat 3)) [.string t32, .slice t32_1.a t32_1.len t32_1.cap, .int .i64 t32_2]) ∧
        New (.cells #[.string (ByteArray.mk #[]), .slice none 0 0, .int .i64 0] 104 (0, 0)) (fun b_f9 w_3 =>
        ∃ w_4 : World, ((Instr.storeAt 104 (.pointer ((some ⟨b_f9, 0, none⟩))) (.agg #[.string t32, .slice t32_1.a t32_1.len t32_1.cap, .int .i64 t32_2])).run Tryz.prog w_3 = .ok () w_4) ∧
        Calls Tryz.prog 126 #[.pointer d0, .int .i64 t20] w_4 fun e_2 w_5 =>
        (e_2 = .returned (.tuple #[])) ∧
        Calls Tryz.prog 68 #[.pointer d0, .string to2] w_5 fun e_3 w_6 =>
        ∃ t38 : Int, (e_3 = .returned (.int .i64 t38)) ∧
        Br (decide (t38 ≥ 0))
         (Calls Tryz.prog 126 #[.pointer d0, .int .i64 t38] w_6 fun e_4 w_7 =>
          (e_4 = .returned (.tuple #[])) ∧
          ∃ w_8 : World, ((Instr.storeAt 9 (.pointer ((some ⟨b_f9, 0, none⟩))) (.string to2)).run Tryz.prog w_7 = .ok () w_8) ∧
          ∃ t47 : ByteArray, ∃ t47_1 : Sl, ∃ t47_2 : Int, (At (fun w' => w' = w_8) ⟨b_f9, 0, none⟩ [.string t47, .slice t47_1.a t47_1.len t47_1.cap, .int .i64 t47_2]) ∧
          Calls Tryz.prog 69 #[.pointer d0, .agg #[.string t47, .slice t47_1.a t47_1.len t47_1.cap, .int .i64 t47_2]] w_8 fun e_5 w_9 =>
          (e_5 = .returned (.tuple #[])) ∧
          K (.int .i64 0) w_9)
         (∃ w_10 : World, ((Instr.storeAt 9 (.pointer ((some ⟨b_f9, 0, none⟩))) (.string to2)).run Tryz.prog w_6 = .ok () w_10) ∧
          ∃ t47_3 : ByteArray, ∃ t47_4 : Sl, ∃ t47_5 : Int, (At (fun w' => w' = w_10) ⟨b_f9, 0, none⟩ [.string t47_3, .slice t47_4.a t47_4.len t47_4.cap, .int .i64 t47_5]) ∧
          Calls Tryz.prog 69 #[.pointer d0, .agg #[.string t47_3, .slice t47_4.a t47_4.len t47_4.cap, .int .i64 t47_5]] w_10 fun e_6 w_11 =>
          (e_6 = .returned (.tuple #[])) ∧
          K (.int .i64 0) w_11)) w_2))))

def sk101 : Sk := .leaf
theorem ok101 : fnOk Tryz.prog Tryz.f101.ntmps Tryz.f101 sk101 = true := by kernel_rfl
theorem eq101 (d0 : Option Addr) (from1 : ByteArray) (to2 : ByteArray) (K : Value → World → Prop) (w : World) : fnF Tryz.prog cl Tryz.f101 sk101 [.pointer d0, .string from1, .string to2] K w = B101 d0 from1 to2 K w := by kernel_rfl
theorem call101 (d0 : Option Addr) (from1 : ByteArray) (to2 : ByteArray) (K : Value → World → Prop) (w : World) (h : B101 d0 from1 to2 K w) : Gets Tryz.prog 101 #[.pointer d0, .string from1, .string to2] w K :=
  calls_of (sk := sk101) cl_ok mixed Tryz.func101 ok101 (args := [.pointer d0, .string from1, .string to2]) (Nat.le_of_ble_eq_true (by kernel_rfl)) (by rw [eq101]; exact h)

/-- (*jetway/jetwayref04.Disk).Unlink. -/
def B99 (d0 : Option Addr) (name1 : ByteArray) (K : Value → World → Prop) (w : World) : Prop :=
  Calls Tryz.prog 67 #[.pointer d0, .string name1, .string name1] w fun e w_1 =>
  ∃ t10 : Int, (e = .returned (.int .i64 t10)) ∧
  Br (t10 != 0)
   (K (.int .i64 t10) w_1)
   (Calls Tryz.prog 68 #[.pointer d0, .string name1] w_1 fun e_1 w_2 =>
    ∃ t16 : Int, (e_1 = .returned (.int .i64 t16)) ∧
    Br (decide (t16 < 0))
     (K (.int .i64 2) w_2)
     (Calls Tryz.prog 126 #[.pointer d0, .int .i64 t16] w_2 fun e_2 w_3 =>
      (e_2 = .returned (.tuple #[])) ∧
      K (.int .i64 0) w_3))

def sk99 : Sk := .leaf
theorem ok99 : fnOk Tryz.prog Tryz.f99.ntmps Tryz.f99 sk99 = true := by kernel_rfl
theorem eq99 (d0 : Option Addr) (name1 : ByteArray) (K : Value → World → Prop) (w : World) : fnF Tryz.prog cl Tryz.f99 sk99 [.pointer d0, .string name1] K w = B99 d0 name1 K w := by kernel_rfl
theorem call99 (d0 : Option Addr) (name1 : ByteArray) (K : Value → World → Prop) (w : World) (h : B99 d0 name1 K w) : Gets Tryz.prog 99 #[.pointer d0, .string name1] w K :=
  calls_of (sk := sk99) cl_ok mixed Tryz.func99 ok99 (args := [.pointer d0, .string name1]) (Nat.le_of_ble_eq_true (by kernel_rfl)) (by rw [eq99]; exact h)

/-- (*jetway/jetwayref04.Disk).Read. -/
def B105 (d0 : Option Addr) (name1 : ByteArray) (K : Value → World → Prop) (w : World) : Prop :=
  Calls Tryz.prog 104 #[.string name1] w fun e w_1 =>
  ∃ t9 : Bool, (e = .returned (.bool t9)) ∧
  NilP d0 fun a_t11 =>
  ∃ t13 : Bool, (At (fun w' => w' = w_1) ⟨a_t11.block, a_t11.off + 4, none⟩ [.bool t13]) ∧
  Br t13
   (K (.tuple #[.slice none 0 0, .int .i64 5]) w_1)
   (Br (!t9)
     (K (.tuple #[.slice none 0 0, .int .i64 1]) w_1)
     (Calls Tryz.prog 68 #[.pointer d0, .string name1] w_1 fun e_1 w_2 =>
      ∃ t18 : Int, (e_1 = .returned (.int .i64 t18)) ∧
      Br (decide (t18 < 0))
       (K (.tuple #[.slice none 0 0, .int .i64 2]) w_2)
       (New (.cells #[] 5 (0, 0)) (fun b_t21 w_3 =>
        NilP d0 fun a_t23 =>
        ∃ t25 : Sl, (At (fun w' => w' = w_3) ⟨a_t23.block, a_t23.off + 1, none⟩ [.slice t25.a t25.len t25.cap]) ∧
        Rng t18 t25.len (NilP t25.a fun a_t27 =>
        ∃ t29 : Sl, (At (fun w' => w' = w_3) ⟨(a_t27.add (mulS t18.toNat 3)).block, (a_t27.add (mulS t18.toNat 3)).off + 1, none⟩ [.slice t29.a t29.len t29.cap]) ∧
        ∃ w_4 : World, ∃ t30 : Sl, ((Builtin.append_ #[25, 25] 25 #[.slice ((some ⟨b_t21, 0, none⟩)) 0 0, .slice t29.a t29.len t29.cap]).run Tryz.prog w_3 = .ok (.slice t30.a t30.len t30.cap) w_4) ∧
        K (.tuple #[.slice t30.a t30.len t30.cap, .int .i64 0]) w_4)) w_2)))

def sk105 : Sk := .leaf
theorem ok105 : fnOk Tryz.prog Tryz.f105.ntmps Tryz.f105 sk105 = true := by kernel_rfl
theorem eq105 (d0 : Option Addr) (name1 : ByteArray) (K : Value → World → Prop) (w : World) : fnF Tryz.prog cl Tryz.f105 sk105 [.pointer d0, .string name1] K w = B105 d0 name1 K w := by kernel_rfl
theorem call105 (d0 : Option Addr) (name1 : ByteArray) (K : Value → World → Prop) (w : World) (h : B105 d0 name1 K w) : Gets Tryz.prog 105 #[.pointer d0, .string name1] w K :=
  calls_of (sk := sk105) cl_ok mixed Tryz.func105 ok105 (args := [.pointer d0, .string name1]) (Nat.le_of_ble_eq_true (by kernel_rfl)) (by rw [eq105]; exact h)

/-- (*jetway/jetwayref04.Disk).Fail. -/
def B27 (d0 : Option Addr) (n1 : Int) (K : Value → World → Prop) (w : World) : Prop :=
  Br (decide (n1 < 0))
   (K (.int .i64 1) w)
   (NilP d0 fun a_t9 =>
    ∃ w_1 : World, ((Instr.storeAt 3 (.pointer ((some ⟨a_t9.block, a_t9.off + 2, none⟩))) (.int .i64 n1)).run Tryz.prog w = .ok () w_1) ∧
    K (.int .i64 0) w_1)

def sk27 : Sk := .leaf
theorem ok27 : fnOk Tryz.prog Tryz.f27.ntmps Tryz.f27 sk27 = true := by kernel_rfl
theorem eq27 (d0 : Option Addr) (n1 : Int) (K : Value → World → Prop) (w : World) : fnF Tryz.prog cl Tryz.f27 sk27 [.pointer d0, .int .i64 n1] K w = B27 d0 n1 K w := by kernel_rfl
theorem call27 (d0 : Option Addr) (n1 : Int) (K : Value → World → Prop) (w : World) (h : B27 d0 n1 K w) : Gets Tryz.prog 27 #[.pointer d0, .int .i64 n1] w K :=
  calls_of (sk := sk27) cl_ok mixed Tryz.func27 ok27 (args := [.pointer d0, .int .i64 n1]) (Nat.le_of_ble_eq_true (by kernel_rfl)) (by rw [eq27]; exact h)

/-- (*jetway/jetwayref04.Disk).Arm. -/
def B28 (d0 : Option Addr) (n1 : Int) (K : Value → World → Prop) (w : World) : Prop :=
  Br (decide (n1 < 0))
   (K (.int .i64 1) w)
   (NilP d0 fun a_t9 =>
    ∃ w_1 : World, ((Instr.storeAt 3 (.pointer ((some ⟨a_t9.block, a_t9.off + 3, none⟩))) (.int .i64 n1)).run Tryz.prog w = .ok () w_1) ∧
    K (.int .i64 0) w_1)

def sk28 : Sk := .leaf
theorem ok28 : fnOk Tryz.prog Tryz.f28.ntmps Tryz.f28 sk28 = true := by kernel_rfl
theorem eq28 (d0 : Option Addr) (n1 : Int) (K : Value → World → Prop) (w : World) : fnF Tryz.prog cl Tryz.f28 sk28 [.pointer d0, .int .i64 n1] K w = B28 d0 n1 K w := by kernel_rfl
theorem call28 (d0 : Option Addr) (n1 : Int) (K : Value → World → Prop) (w : World) (h : B28 d0 n1 K w) : Gets Tryz.prog 28 #[.pointer d0, .int .i64 n1] w K :=
  calls_of (sk := sk28) cl_ok mixed Tryz.func28 ok28 (args := [.pointer d0, .int .i64 n1]) (Nat.le_of_ble_eq_true (by kernel_rfl)) (by rw [eq28]; exact h)

/-- (*jetway/jetwayref04.Disk).Crash. -/
def B29 (d0 : Option Addr) (keep1 : Sl) (K : Value → World → Prop) (w : World) : Prop :=
  ∃ (I : Int → World → Prop) (μ : Int → World → Nat), (I 0 w) ∧ ∀ (z : Env) (i4 : Int) (w_1 : World), I i4 w_1 →
  NilP d0 fun a_t8 =>
  ∃ t10 : Sl, (At (fun w' => w' = w_1) ⟨a_t8.block, a_t8.off + 1, none⟩ [.slice t10.a t10.len t10.cap]) ∧
  Br (decide (i4 < (↑t10.len : Int)))
   (∃ (J : Int → World → Prop), (Br (decide (i4 < (↑keep1.len : Int)))
       (Drw w_1 fun S w_2 =>
        Rng i4 keep1.len (NilP keep1.a fun a_t21 =>
        ∃ t22 : Int, (At S (Addr.add a_t21 i4.toNat) [.int .i64 t22]) ∧
        NilP d0 fun a_t24 =>
        ∃ t26 : Sl, (At S ⟨a_t24.block, a_t24.off + 1, none⟩ [.slice t26.a t26.len t26.cap]) ∧
        Rng i4 t26.len (NilP t26.a fun a_t28 =>
        ∃ t30 : Sl, (At S ⟨(a_t28.add (mulS i4.toNat 3)).block, (a_t28.add (mulS i4.toNat 3)).off + 1, none⟩ [.slice t30.a t30.len t30.cap]) ∧
        NilP d0 fun a_t33 =>
        ∃ t35 : Sl, (At S ⟨a_t33.block, a_t33.off + 1, none⟩ [.slice t35.a t35.len t35.cap]) ∧
        Rng i4 t35.len (NilP t35.a fun a_t37 =>
        ∃ t39 : Int, (At S ⟨(a_t37.add (mulS i4.toNat 3)).block, (a_t37.add (mulS i4.toNat 3)).off + 2, none⟩ [.int .i64 t39]) ∧
        J (if (if IntKind.i64.wrap ((↑t30.len : Int) - t39) < t22 then IntKind.i64.wrap ((↑t30.len : Int) - t39) else t22) > 0 then if IntKind.i64.wrap ((↑t30.len : Int) - t39) < t22 then IntKind.i64.wrap ((↑t30.len : Int) - t39) else t22 else 0) w_2))))
       (J 0 w_1)) ∧
    ∀ (z_1 : Env) (n5 : Int) (w_3 : World), J n5 w_3 →
    Drw w_3 fun S_1 w_4 =>
    NilP d0 fun a_t44 =>
    ∃ t46 : Sl, (At S_1 ⟨a_t44.block, a_t44.off + 1, none⟩ [.slice t46.a t46.len t46.cap]) ∧
    NilP d0 fun a_t49 =>
    ∃ t51 : Sl, (At S_1 ⟨a_t49.block, a_t49.off + 1, none⟩ [.slice t51.a t51.len t51.cap]) ∧
    Rng i4 t51.len (NilP t51.a fun a_t53 =>
    ∃ t55 : Sl, (At S_1 ⟨(a_t53.add (mulS i4.toNat 3)).block, (a_t53.add (mulS i4.toNat 3)).off + 1, none⟩ [.slice t55.a t55.len t55.cap]) ∧
    NilP d0 fun a_t57 =>
    ∃ t59 : Sl, (At S_1 ⟨a_t57.block, a_t57.off + 1, none⟩ [.slice t59.a t59.len t59.cap]) ∧
    Rng i4 t59.len (NilP t59.a fun a_t61 =>
    ∃ t63 : Int, (At S_1 ⟨(a_t61.add (mulS i4.toNat 3)).block, (a_t61.add (mulS i4.toNat 3)).off + 2, none⟩ [.int .i64 t63]) ∧
    ((0 : Int) ≤ IntKind.i64.wrap (t63 + n5)) ∧
    ((IntKind.i64.wrap (t63 + n5) : Int) ≤ (↑t55.cap : Int)) ∧
    Rng i4 t46.len (NilP t46.a fun a_t67 =>
    ∃ w_5 : World, ((Instr.storeAt 25 (.pointer ((some ⟨(a_t67.add (mulS i4.toNat 3)).block, (a_t67.add (mulS i4.toNat 3)).off + 1, none⟩))) (.slice t55.a ((IntKind.i64.wrap (t63 + n5)).toNat) t55.cap)).run Tryz.prog w_4 = .ok () w_5) ∧
    Drw w_5 fun S_2 w_6 =>
    NilP d0 fun a_t70 =>
    ∃ t72 : Sl, (At S_2 ⟨a_t70.block, a_t70.off + 1, none⟩ [.slice t72.a t72.len t72.cap]) ∧
    NilP d0 fun a_t75 =>
    ∃ t77 : Sl, (At S_2 ⟨a_t75.block, a_t75.off + 1, none⟩ [.slice t77.a t77.len t77.cap]) ∧
    Rng i4 t77.len (NilP t77.a fun a_t79 =>
    ∃ t81 : Sl, (At S_2 ⟨(a_t79.add (mulS i4.toNat 3)).block, (a_t79.add (mulS i4.toNat 3)).off + 1, none⟩ [.slice t81.a t81.len t81.cap]) ∧
    Rng i4 t72.len (NilP t72.a fun a_t83 =>
    ∃ w_7 : World, ((Instr.storeAt 3 (.pointer ((some ⟨(a_t83.add (mulS i4.toNat 3)).block, (a_t83.add (mulS i4.toNat 3)).off + 2, none⟩))) (.int .i64 ((↑t81.len : Int)))).run Tryz.prog w_6 = .ok () w_7) ∧
    (I (IntKind.i64.wrap (i4 + 1)) w_7) ∧ μ (IntKind.i64.wrap (i4 + 1)) w_7 < μ i4 w_1))))))
   (NilP d0 fun a_t86 =>
    ∃ w_8 : World, ((Instr.storeAt 4 (.pointer ((some ⟨a_t86.block, a_t86.off + 4, none⟩))) (.bool false)).run Tryz.prog w_1 = .ok () w_8) ∧
    NilP d0 fun a_t89 =>
    ∃ w_9 : World, ((Instr.storeAt 3 (.pointer ((some ⟨a_t89.block, a_t89.off + 2, none⟩))) (.int .i64 ((-1)))).run Tryz.prog w_8 = .ok () w_9) ∧
    NilP d0 fun a_t92 =>
    ∃ w_10 : World, ((Instr.storeAt 3 (.pointer ((some ⟨a_t92.block, a_t92.off + 3, none⟩))) (.int .i64 ((-1)))).run Tryz.prog w_9 = .ok () w_10) ∧
    K (.tuple #[]) w_10)

def sk29 : Sk := (.seq (.seq .leaf (.block (.loop [4] [(.int .i64)] [4, 5, 6, 7, 8, 9, 10, 11, 12, 13, 14, 15, 16, 17, 18, 19, 20, 21, 22, 23, 24, 25, 26, 27, 28, 29, 30, 31, 32, 33, 34, 35, 36, 37, 38, 39, 40, 41, 42, 43, 44, 45, 46, 47, 48, 49, 50, 51, 52, 53, 54, 55, 56, 57, 58, 59, 60, 61, 62, 63, 64, 65, 66, 67, 68, 69, 70, 71, 72, 73, 74, 75, 76, 77, 78, 79, 80, 81, 82, 83, 84] (.seq .leaf (.seq (.block (.seq .leaf (.cut [5] [(.int .i64)] [5, 15, 16, 17, 18, 19, 20, 21, 22, 23, 24, 25, 26, 27, 28, 29, 30, 31, 32, 33, 34, 35, 36, 37, 38, 39, 40, 41, 42] .leaf .leaf))) .leaf))))) .leaf)
theorem ok29 : fnOk Tryz.prog Tryz.f29.ntmps Tryz.f29 sk29 = true := by kernel_rfl
theorem eq29 (d0 : Option Addr) (keep1 : Sl) (K : Value → World → Prop) (w : World) : fnF Tryz.prog cl Tryz.f29 sk29 [.pointer d0, .slice keep1.a keep1.len keep1.cap] K w = B29 d0 keep1 K w := by kernel_rfl
theorem call29 (d0 : Option Addr) (keep1 : Sl) (K : Value → World → Prop) (w : World) (h : B29 d0 keep1 K w) : Gets Tryz.prog 29 #[.pointer d0, .slice keep1.a keep1.len keep1.cap] w K :=
  calls_of (sk := sk29) cl_ok mixed Tryz.func29 ok29 (args := [.pointer d0, .slice keep1.a keep1.len keep1.cap]) (Nat.le_of_ble_eq_true (by kernel_rfl)) (by rw [eq29]; exact h)

/-- (*jetway/jetwayref04.Disk).Names. -/
def B98 (d0 : Option Addr) (K : Value → World → Prop) (w : World) : Prop :=
  ∃ (I : Sl → Int → World → Prop) (μ : Sl → Int → World → Nat), (I ⟨none, 0, 0⟩ 0 w) ∧ ∀ (z : Env) (out3 : Sl) (i4 : Int) (w_1 : World), I out3 i4 w_1 →
  NilP d0 fun a_t7 =>
  ∃ t9 : Sl, (At (fun w' => w' = w_1) ⟨a_t7.block, a_t7.off + 1, none⟩ [.slice t9.a t9.len t9.cap]) ∧
  Br (decide (i4 < (↑t9.len : Int)))
   (NilP d0 fun a_t16 =>
    ∃ t18 : Sl, (At (fun w' => w' = w_1) ⟨a_t16.block, a_t16.off + 1, none⟩ [.slice t18.a t18.len t18.cap]) ∧
    Rng i4 t18.len (NilP t18.a fun a_t20 =>
    ∃ t22 : ByteArray, (At (fun w' => w' = w_1) (Addr.add (Addr.add a_t20 (mulS i4.toNat 3)) 0) [.string t22]) ∧
    New (.cells #[.string t22] 9 (0, 0)) (fun b_t23 w_2 =>
    ∃ w_3 : World, ∃ t24 : Sl, ((Builtin.append_ #[93, 93] 93 #[.slice out3.a out3.len out3.cap, .slice ((some ⟨b_t23, 0, none⟩)) 1 1]).run Tryz.prog w_2 = .ok (.slice t24.a t24.len t24.cap) w_3) ∧
    (I t24 (IntKind.i64.wrap (i4 + 1)) w_3) ∧ μ t24 (IntKind.i64.wrap (i4 + 1)) w_3 < μ out3 i4 w_1) w_1))
   (K (.slice out3.a out3.len out3.cap) w_1)

def sk98 : Sk := (.seq .leaf (.seq .leaf (.seq (.seq .leaf (.block (.loop [3, 4] [.sl, (.int .i64)] [3, 4, 5, 6, 7, 8, 9, 10, 11, 12, 13, 14, 15, 16, 17, 18, 19, 20, 21, 22, 23, 24] .leaf))) .leaf)))
theorem ok98 : fnOk Tryz.prog Tryz.f98.ntmps Tryz.f98 sk98 = true := by kernel_rfl
theorem eq98 (d0 : Option Addr) (K : Value → World → Prop) (w : World) : fnF Tryz.prog cl Tryz.f98 sk98 [.pointer d0] K w = B98 d0 K w := by kernel_rfl
theorem call98 (d0 : Option Addr) (K : Value → World → Prop) (w : World) (h : B98 d0 K w) : Gets Tryz.prog 98 #[.pointer d0] w K :=
  calls_of (sk := sk98) cl_ok mixed Tryz.func98 ok98 (args := [.pointer d0]) (Nat.le_of_ble_eq_true (by kernel_rfl)) (by rw [eq98]; exact h)

/-- (*jetway/jetwayref04.Disk).Size. -/
def B36 (d0 : Option Addr) (K : Value → World → Prop) (w : World) : Prop :=
  ∃ (I : Int → Int → World → Prop) (μ : Int → Int → World → Nat), (I 0 0 w) ∧ ∀ (z : Env) (n3 : Int) (i4 : Int) (w_1 : World), I n3 i4 w_1 →
  NilP d0 fun a_t7 =>
  ∃ t9 : Sl, (At (fun w' => w' = w_1) ⟨a_t7.block, a_t7.off + 1, none⟩ [.slice t9.a t9.len t9.cap]) ∧
  Br (decide (i4 < (↑t9.len : Int)))
   (NilP d0 fun a_t16 =>
    ∃ t18 : Sl, (At (fun w' => w' = w_1) ⟨a_t16.block, a_t16.off + 1, none⟩ [.slice t18.a t18.len t18.cap]) ∧
    Rng i4 t18.len (NilP t18.a fun a_t20 =>
    ∃ t22 : Sl, (At (fun w' => w' = w_1) ⟨(a_t20.add (mulS i4.toNat 3)).block, (a_t20.add (mulS i4.toNat 3)).off + 1, none⟩ [.slice t22.a t22.len t22.cap]) ∧
    (I (IntKind.i64.wrap (n3 + (↑t22.len : Int))) (IntKind.i64.wrap (i4 + 1)) w_1) ∧ μ (IntKind.i64.wrap (n3 + (↑t22.len : Int))) (IntKind.i64.wrap (i4 + 1)) w_1 < μ n3 i4 w_1))
   (K (.int .i64 n3) w_1)

def sk36 : Sk := (.seq .leaf (.seq .leaf (.seq (.seq .leaf (.block (.loop [3, 4] [(.int .i64), (.int .i64)] [3, 4, 5, 6, 7, 8, 9, 10, 11, 12, 13, 14, 15, 16, 17, 18, 19, 20, 21, 22, 23, 24] .leaf))) .leaf)))
theorem ok36 : fnOk Tryz.prog Tryz.f36.ntmps Tryz.f36 sk36 = true := by kernel_rfl
theorem eq36 (d0 : Option Addr) (K : Value → World → Prop) (w : World) : fnF Tryz.prog cl Tryz.f36 sk36 [.pointer d0] K w = B36 d0 K w := by kernel_rfl
theorem call36 (d0 : Option Addr) (K : Value → World → Prop) (w : World) (h : B36 d0 K w) : Gets Tryz.prog 36 #[.pointer d0] w K :=
  calls_of (sk := sk36) cl_ok mixed Tryz.func36 ok36 (args := [.pointer d0]) (Nat.le_of_ble_eq_true (by kernel_rfl)) (by rw [eq36]; exact h)

/-- (*jetway/jetwayref04.Disk).change. -/
def B67 (d0 : Option Addr) (name1 : ByteArray) (other2 : ByteArray) (K : Value → World → Prop) (w : World) : Prop :=
  Calls Tryz.prog 104 #[.string name1] w fun e w_1 =>
  ∃ t10 : Bool, (e = .returned (.bool t10)) ∧
  Calls Tryz.prog 104 #[.string other2] w_1 fun e_1 w_2 =>
  ∃ t12 : Bool, (e_1 = .returned (.bool t12)) ∧
  ∃ (J : World → Prop), (Br (!t10)
     (K (.int .i64 1) w_2)
     (Br (!t12)
       (K (.int .i64 1) w_2)
       (J  w_2))) ∧
  ∀ (z : Env)  (w_3 : World), J  w_3 →
  NilP d0 fun a_t20 =>
  ∃ t22 : Bool, (At (fun w' => w' = w_3) ⟨a_t20.block, a_t20.off + 4, none⟩ [.bool t22]) ∧
  Br t22
   (K (.int .i64 5) w_3)
   (NilP d0 fun a_t24 =>
    ∃ t26 : Int, (At (fun w' => w' = w_3) ⟨a_t24.block, a_t24.off + 3, none⟩ [.int .i64 t26]) ∧
    Br (t26 == 0)
     (NilP d0 fun a_t29 =>
      ∃ w_4 : World, ((Instr.storeAt 3 (.pointer ((some ⟨a_t29.block, a_t29.off + 3, none⟩))) (.int .i64 ((-1)))).run Tryz.prog w_3 = .ok () w_4) ∧
      NilP d0 fun a_t32 =>
      ∃ w_5 : World, ((Instr.storeAt 4 (.pointer ((some ⟨a_t32.block, a_t32.off + 4, none⟩))) (.bool true)).run Tryz.prog w_4 = .ok () w_5) ∧
      K (.int .i64 5) w_5)
     (∃ (J_1 : World → Prop), (NilP d0 fun a_t35 =>
        ∃ t37 : Int, (At (fun w' => w' = w_3) ⟨a_t35.block, a_t35.off + 3, none⟩ [.int .i64 t37]) ∧
        Br (decide (t37 > 0))
         (NilP d0 fun a_t40 =>
          ∃ t42 : Int, (At (fun w' => w' = w_3) ⟨a_t40.block, a_t40.off + 3, none⟩ [.int .i64 t42]) ∧
          NilP d0 fun a_t44 =>
          ∃ w_6 : World, ((Instr.storeAt 3 (.pointer ((some ⟨a_t44.block, a_t44.off + 3, none⟩))) (.int .i64 (IntKind.i64.wrap (t42 - 1)))).run Tryz.prog w_3 = .ok () w_6) ∧
          J_1  w_6)
         (J_1  w_3)) ∧
      ∀ (z_1 : Env)  (w_7 : World), J_1  w_7 →
      NilP d0 fun a_t47 =>
      ∃ t49 : Int, (At (fun w' => w' = w_7) ⟨a_t47.block, a_t47.off + 2, none⟩ [.int .i64 t49]) ∧
      Br (t49 == 0)
       (NilP d0 fun a_t52 =>
        ∃ w_8 : World, ((Instr.storeAt 3 (.pointer ((some ⟨a_t52.block, a_t52.off + 2, none⟩))) (.int .i64 ((-1)))).run Tryz.prog w_7 = .ok () w_8) ∧
        K (.int .i64 4) w_8)
       (NilP d0 fun a_t55 =>
        ∃ t57 : Int, (At (fun w' => w' = w_7) ⟨a_t55.block, a_t55.off + 2, none⟩ [.int .i64 t57]) ∧
        Br (decide (t57 > 0))
         (NilP d0 fun a_t60 =>
          ∃ t62 : Int, (At (fun w' => w' = w_7) ⟨a_t60.block, a_t60.off + 2, none⟩ [.int .i64 t62]) ∧
          NilP d0 fun a_t64 =>
          ∃ w_9 : World, ((Instr.storeAt 3 (.pointer ((some ⟨a_t64.block, a_t64.off + 2, none⟩))) (.int .i64 (IntKind.i64.wrap (t62 - 1)))).run Tryz.prog w_7 = .ok () w_9) ∧
          K (.int .i64 0) w_9)
         (K (.int .i64 0) w_7))))

def sk67 : Sk := (.seq .leaf (.seq .leaf (.seq .leaf (.cut [] [] [6, 13, 14, 15, 16, 17, 18] .leaf (.seq .leaf (.seq .leaf (.cut [] [] [34, 35, 36, 37, 38, 39, 40, 41, 42, 43, 44, 45] .leaf .leaf)))))))
theorem ok67 : fnOk Tryz.prog Tryz.f67.ntmps Tryz.f67 sk67 = true := by kernel_rfl
theorem eq67 (d0 : Option Addr) (name1 : ByteArray) (other2 : ByteArray) (K : Value → World → Prop) (w : World) : fnF Tryz.prog cl Tryz.f67 sk67 [.pointer d0, .string name1, .string other2] K w = B67 d0 name1 other2 K w := by kernel_rfl
theorem call67 (d0 : Option Addr) (name1 : ByteArray) (other2 : ByteArray) (K : Value → World → Prop) (w : World) (h : B67 d0 name1 other2 K w) : Gets Tryz.prog 67 #[.pointer d0, .string name1, .string other2] w K :=
  calls_of (sk := sk67) cl_ok mixed Tryz.func67 ok67 (args := [.pointer d0, .string name1, .string other2]) (Nat.le_of_ble_eq_true (by kernel_rfl)) (by rw [eq67]; exact h)

/-- (*jetway/jetwayref04.Disk).place. -/
def B68 (d0 : Option Addr) (name1 : ByteArray) (K : Value → World → Prop) (w : World) : Prop :=
  ∃ (I : Int → World → Prop) (μ : Int → World → Nat), (I 0 w) ∧ ∀ (z : Env) (i5 : Int) (w_1 : World), I i5 w_1 →
  NilP d0 fun a_t8 =>
  ∃ t10 : Sl, (At (fun w' => w' = w_1) ⟨a_t8.block, a_t8.off + 1, none⟩ [.slice t10.a t10.len t10.cap]) ∧
  Br (decide (i5 < (↑t10.len : Int)))
   (NilP d0 fun a_t16 =>
    ∃ t18 : Sl, (At (fun w' => w' = w_1) ⟨a_t16.block, a_t16.off + 1, none⟩ [.slice t18.a t18.len t18.cap]) ∧
    Rng i5 t18.len (NilP t18.a fun a_t20 =>
    ∃ t22 : ByteArray, (At (fun w' => w' = w_1) (Addr.add (Addr.add a_t20 (mulS i5.toNat 3)) 0) [.string t22]) ∧
    Br (t22.toList == name1.toList)
     (K (.int .i64 i5) w_1)
     ((I (IntKind.i64.wrap (i5 + 1)) w_1) ∧ μ (IntKind.i64.wrap (i5 + 1)) w_1 < μ i5 w_1)))
   (K (.int .i64 ((-1))) w_1)

def sk68 : Sk := (.seq .leaf (.seq (.seq .leaf (.block (.loop [5] [(.int .i64)] [4, 5, 6, 7, 8, 9, 10, 11, 12, 13, 14, 15, 16, 17, 18, 19, 20, 21, 22, 23, 24, 25] .leaf))) .leaf))
theorem ok68 : fnOk Tryz.prog Tryz.f68.ntmps Tryz.f68 sk68 = true := by kernel_rfl
theorem eq68 (d0 : Option Addr) (name1 : ByteArray) (K : Value → World → Prop) (w : World) : fnF Tryz.prog cl Tryz.f68 sk68 [.pointer d0, .string name1] K w = B68 d0 name1 K w := by kernel_rfl
theorem call68 (d0 : Option Addr) (name1 : ByteArray) (K : Value → World → Prop) (w : World) (h : B68 d0 name1 K w) : Gets Tryz.prog 68 #[.pointer d0, .string name1] w K :=
  calls_of (sk := sk68) cl_ok mixed Tryz.func68 ok68 (args := [.pointer d0, .string name1]) (Nat.le_of_ble_eq_true (by kernel_rfl)) (by rw [eq68]; exact h)

/-- (*jetway/jetwayref04.Disk).put. -/
def B69 (d0 : Option Addr) (f1_0 : ByteArray) (f1_1 : Sl) (f1_2 : Int) (K : Value → World → Prop) (w : World) : Prop :=
  New (.cells #[.string f1_0, .slice f1_1.a f1_1.len f1_1.cap, .int .i64 f1_2] 104 (0, 0)) (fun b_f3 w_1 =>
  ∃ (J : Int → World → Prop), (∃ (I : Int → World → Prop) (μ : Int → World → Nat), (I 0 w_1) ∧ ∀ (z : Env) (at4 : Int) (w_2 : World), I at4 w_2 →
    Drw w_2 fun S w_3 =>
    NilP d0 fun a_t8 =>
    ∃ t10 : Sl, (At S ⟨a_t8.block, a_t8.off + 1, none⟩ [.slice t10.a t10.len t10.cap]) ∧
    Br (decide (at4 < (↑t10.len : Int)))
     (NilP d0 fun a_t15 =>
      ∃ t17 : Sl, (At S ⟨a_t15.block, a_t15.off + 1, none⟩ [.slice t17.a t17.len t17.cap]) ∧
      Rng at4 t17.len (NilP t17.a fun a_t19 =>
      ∃ t21 : ByteArray, (At S (Addr.add (Addr.add a_t19 (mulS at4.toNat 3)) 0) [.string t21]) ∧
      ∃ t23 : ByteArray, (At S ⟨b_f3, 0, none⟩ [.string t23]) ∧
      Br (Op.bytesLess t21.toList t23.toList)
       ((I (IntKind.i64.wrap (at4 + 1)) w_3) ∧ μ (IntKind.i64.wrap (at4 + 1)) w_3 < μ at4 w_2)
       (J at4 w_3)))
     (J at4 w_3)) ∧
  ∀ (z_1 : Env) (at4_1 : Int) (w_4 : World), J at4_1 w_4 →
  New (.cells #[] 104 (0, 0)) (fun b_t28 w_5 =>
  NilP d0 fun a_t30 =>
  ∃ t32 : Sl, (At (fun w' => w' = w_5) ⟨a_t30.block, a_t30.off + 1, none⟩ [.slice t32.a t32.len t32.cap]) ∧
  ((0 : Int) ≤ at4_1) ∧
  ((at4_1 : Int) ≤ (↑t32.cap : Int)) ∧
  ∃ w_6 : World, ∃ t35 : Sl, ((Builtin.append_ #[64, 64] 64 #[.slice ((some ⟨b_t28, 0, none⟩)) 0 0, .slice t32.a at4_1.toNat t32.cap]).run Tryz.prog w_5 = .ok (.slice t35.a t35.len t35.cap) w_6) ∧
  ∃ t37 : ByteArray, ∃ t37_1 : Sl, ∃ t37_2 : Int, (At (fun w' => w' = w_6) ⟨b_f3, 0, none⟩ [.string t37, .slice t37_1.a t37_1.len t37_1.cap, .int .i64 t37_2]) ∧
  New (.cells #[.string t37, .slice t37_1.a t37_1.len t37_1.cap, .int .i64 t37_2] 104 (0, 0)) (fun b_t38 w_7 =>
  ∃ w_8 : World, ∃ t39 : Sl, ((Builtin.append_ #[64, 64] 64 #[.slice t35.a t35.len t35.cap, .slice ((some ⟨b_t38, 0, none⟩)) 1 1]).run Tryz.prog w_7 = .ok (.slice t39.a t39.len t39.cap) w_8) ∧
  NilP d0 fun a_t43 =>
  ∃ t45 : Sl, (At (fun w' => w' = w_8) ⟨a_t43.block, a_t43.off + 1, none⟩ [.slice t45.a t45.len t45.cap]) ∧
  ((0 : Int) ≤ at4_1) ∧
  ((at4_1 : Int) ≤ (↑t45.len : Int)) ∧
  ∃ w_9 : World, ∃ t48 : Sl, ((Builtin.append_ #[64, 64] 64 #[.slice t39.a t39.len t39.cap, .slice (cutA t45.a at4_1.toNat t45.cap 3) (t45.len - at4_1.toNat) (t45.cap - at4_1.toNat)]).run Tryz.prog w_8 = .ok (.slice t48.a t48.len t48.cap) w_9) ∧
  NilP d0 fun a_t49 =>
  ∃ w_10 : World, ((Instr.storeAt 64 (.pointer ((some ⟨a_t49.block, a_t49.off + 1, none⟩))) (.slice t48.a t48.len t48.cap)).run Tryz.prog w_9 = .ok () w_10) ∧
  K (.tuple #[]) w_10) w_6) w_4) w

def sk69 : Sk := (.seq .leaf (.seq .leaf (.cut [4] [(.int .i64)] [4, 6, 7, 8, 9, 10, 11, 12, 13, 14, 15, 16, 17, 18, 19, 20, 21, 22, 23, 24, 25, 26, 27] (.block (.loop [4] [(.int .i64)] [4, 6, 7, 8, 9, 10, 11, 12, 13, 14, 15, 16, 17, 18, 19, 20, 21, 22, 23, 24, 25, 26, 27] .leaf)) .leaf)))
theorem ok69 : fnOk Tryz.prog Tryz.f69.ntmps Tryz.f69 sk69 = true := by kernel_rfl
theorem eq69 (d0 : Option Addr) (f1_0 : ByteArray) (f1_1 : Sl) (f1_2 : Int) (K : Value → World → Prop) (w : World) : fnF Tryz.prog cl Tryz.f69 sk69 [.pointer d0, .agg #[.string f1_0, .slice f1_1.a f1_1.len f1_1.cap, .int .i64 f1_2]] K w = B69 d0 f1_0 f1_1 f1_2 K w := by kernel_rfl
theorem call69 (d0 : Option Addr) (f1_0 : ByteArray) (f1_1 : Sl) (f1_2 : Int) (K : Value → World → Prop) (w : World) (h : B69 d0 f1_0 f1_1 f1_2 K w) : Gets Tryz.prog 69 #[.pointer d0, .agg #[.string f1_0, .slice f1_1.a f1_1.len f1_1.cap, .int .i64 f1_2]] w K :=
  calls_of (sk := sk69) cl_ok mixed Tryz.func69 ok69 (args := [.pointer d0, .agg #[.string f1_0, .slice f1_1.a f1_1.len f1_1.cap, .int .i64 f1_2]]) (Nat.le_of_ble_eq_true (by kernel_rfl)) (by rw [eq69]; exact h)

/-- (*jetway/jetwayref04.Disk).out. -/
def B126 (d0 : Option Addr) (i1 : Int) (K : Value → World → Prop) (w : World) : Prop :=
  New (.cells #[] 104 (0, 0)) (fun b_t5 w_1 =>
  NilP d0 fun a_t7 =>
  ∃ t9 : Sl, (At (fun w' => w' = w_1) ⟨a_t7.block, a_t7.off + 1, none⟩ [.slice t9.a t9.len t9.cap]) ∧
  ((0 : Int) ≤ i1) ∧
  ((i1 : Int) ≤ (↑t9.cap : Int)) ∧
  ∃ w_2 : World, ∃ t12 : Sl, ((Builtin.append_ #[64, 64] 64 #[.slice ((some ⟨b_t5, 0, none⟩)) 0 0, .slice t9.a i1.toNat t9.cap]).run Tryz.prog w_1 = .ok (.slice t12.a t12.len t12.cap) w_2) ∧
  NilP d0 fun a_t16 =>
  ∃ t18 : Sl, (At (fun w' => w' = w_2) ⟨a_t16.block, a_t16.off + 1, none⟩ [.slice t18.a t18.len t18.cap]) ∧
  ((0 : Int) ≤ IntKind.i64.wrap (i1 + 1)) ∧
  ((IntKind.i64.wrap (i1 + 1) : Int) ≤ (↑t18.len : Int)) ∧
  ∃ w_3 : World, ∃ t22 : Sl, ((Builtin.append_ #[64, 64] 64 #[.slice t12.a t12.len t12.cap, .slice (cutA t18.a (IntKind.i64.wrap (i1 + 1)).toNat t18.cap 3) (t18.len - (IntKind.i64.wrap (i1 + 1)).toNat) (t18.cap - (IntKind.i64.wrap (i1 + 1)).toNat)]).run Tryz.prog w_2 = .ok (.slice t22.a t22.len t22.cap) w_3) ∧
  NilP d0 fun a_t23 =>
  ∃ w_4 : World, ((Instr.storeAt 64 (.pointer ((some ⟨a_t23.block, a_t23.off + 1, none⟩))) (.slice t22.a t22.len t22.cap)).run Tryz.prog w_3 = .ok () w_4) ∧
  K (.tuple #[]) w_4) w

def sk126 : Sk := .leaf
theorem ok126 : fnOk Tryz.prog Tryz.f126.ntmps Tryz.f126 sk126 = true := by kernel_rfl
theorem eq126 (d0 : Option Addr) (i1 : Int) (K : Value → World → Prop) (w : World) : fnF Tryz.prog cl Tryz.f126 sk126 [.pointer d0, .int .i64 i1] K w = B126 d0 i1 K w := by kernel_rfl
theorem call126 (d0 : Option Addr) (i1 : Int) (K : Value → World → Prop) (w : World) (h : B126 d0 i1 K w) : Gets Tryz.prog 126 #[.pointer d0, .int .i64 i1] w K :=
  calls_of (sk := sk126) cl_ok mixed Tryz.func126 ok126 (args := [.pointer d0, .int .i64 i1]) (Nat.le_of_ble_eq_true (by kernel_rfl)) (by rw [eq126]; exact h)

/-- jetway/jetwayref04.IsName. -/
def B104 (s0 : ByteArray) (K : Value → World → Prop) (w : World) : Prop :=
  ∃ (I : Int → World → Prop) (μ : Int → World → Nat), (I 0 w) ∧ ∀ (z : Env) (i3 : Int) (w_1 : World), I i3 w_1 →
  Br (decide (i3 < (↑s0.size : Int)))
   (∃ t13 : UInt8, ((0 : Int) ≤ i3) ∧
    (s0[i3.toNat]? = some t13) ∧
    Br (decide ((↑t13.toNat : Int) ≥ 97))
     (Br (decide ((↑t13.toNat : Int) ≤ 122))
       ((I (IntKind.i64.wrap (i3 + 1)) w_1) ∧ μ (IntKind.i64.wrap (i3 + 1)) w_1 < μ i3 w_1)
       (Br (decide ((↑t13.toNat : Int) ≥ 48))
         (Br (decide ((↑t13.toNat : Int) ≤ 57))
           ((I (IntKind.i64.wrap (i3 + 1)) w_1) ∧ μ (IntKind.i64.wrap (i3 + 1)) w_1 < μ i3 w_1)
           (Br ((↑t13.toNat : Int) == 46)
             ((I (IntKind.i64.wrap (i3 + 1)) w_1) ∧ μ (IntKind.i64.wrap (i3 + 1)) w_1 < μ i3 w_1)
             (Br (!(↑t13.toNat : Int) == 45)
               (K (.bool false) w_1)
               ((I (IntKind.i64.wrap (i3 + 1)) w_1) ∧ μ (IntKind.i64.wrap (i3 + 1)) w_1 < μ i3 w_1))))
         (Br ((↑t13.toNat : Int) == 46)
           ((I (IntKind.i64.wrap (i3 + 1)) w_1) ∧ μ (IntKind.i64.wrap (i3 + 1)) w_1 < μ i3 w_1)
           (Br (!(↑t13.toNat : Int) == 45)
             (K (.bool false) w_1)
             ((I (IntKind.i64.wrap (i3 + 1)) w_1) ∧ μ (IntKind.i64.wrap (i3 + 1)) w_1 < μ i3 w_1)))))
     (Br (decide ((↑t13.toNat : Int) ≥ 48))
       (Br (decide ((↑t13.toNat : Int) ≤ 57))
         ((I (IntKind.i64.wrap (i3 + 1)) w_1) ∧ μ (IntKind.i64.wrap (i3 + 1)) w_1 < μ i3 w_1)
         (Br ((↑t13.toNat : Int) == 46)
           ((I (IntKind.i64.wrap (i3 + 1)) w_1) ∧ μ (IntKind.i64.wrap (i3 + 1)) w_1 < μ i3 w_1)
           (Br (!(↑t13.toNat : Int) == 45)
             (K (.bool false) w_1)
             ((I (IntKind.i64.wrap (i3 + 1)) w_1) ∧ μ (IntKind.i64.wrap (i3 + 1)) w_1 < μ i3 w_1))))
       (Br ((↑t13.toNat : Int) == 46)
         ((I (IntKind.i64.wrap (i3 + 1)) w_1) ∧ μ (IntKind.i64.wrap (i3 + 1)) w_1 < μ i3 w_1)
         (Br (!(↑t13.toNat : Int) == 45)
           (K (.bool false) w_1)
           ((I (IntKind.i64.wrap (i3 + 1)) w_1) ∧ μ (IntKind.i64.wrap (i3 + 1)) w_1 < μ i3 w_1)))))
   (Br (decide ((↑s0.size : Int) ≥ 1))
     (K (.bool (decide ((↑s0.size : Int) ≤ 64))) w_1)
     (K (.bool false) w_1))

def sk104 : Sk := (.seq .leaf (.seq (.seq .leaf (.block (.loop [3] [(.int .i64)] [2, 3, 4, 5, 6, 7, 8, 9, 10, 11, 12, 13, 14, 15, 16, 17, 18, 19, 20, 21, 22, 23, 24, 25, 26, 27, 28, 29, 30, 31, 32, 33, 34, 35, 36] .leaf))) .leaf))
theorem ok104 : fnOk Tryz.prog Tryz.f104.ntmps Tryz.f104 sk104 = true := by kernel_rfl
theorem eq104 (s0 : ByteArray) (K : Value → World → Prop) (w : World) : fnF Tryz.prog cl Tryz.f104 sk104 [.string s0] K w = B104 s0 K w := by kernel_rfl
theorem call104 (s0 : ByteArray) (K : Value → World → Prop) (w : World) (h : B104 s0 K w) : Gets Tryz.prog 104 #[.string s0] w K :=
  calls_of (sk := sk104) cl_ok mixed Tryz.func104 ok104 (args := [.string s0]) (Nat.le_of_ble_eq_true (by kernel_rfl)) (by rw [eq104]; exact h)

end Go.Proofs.YtgfneeoponiibaaGreat
