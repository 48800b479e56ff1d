/- The disk: Rename. Condition: none. -/
import Derived.Test.YtbniilhfbfcegaaD8
namespace Go.Proofs.Ytbniilhfbfcegaa
open Go Go.VC

variable {R : Cx} {Hs Rest : List HP} {w : World}

theorem delM_map {β γ : Type} (g : β → γ) (k : ByteArray) : ∀ l : List (ByteArray × β), (delM k l).map (fun e => (e.1, g e.2)) = delM k (l.map fun e => (e.1, g e.2))
  | [] => rfl
  | e :: l => by
    rw [delM, List.map_cons, delM]
    split
    · rfl
    · rw [List.map_cons, delM_map g k l]
theorem delM_none {β : Type} {k : ByteArray} : ∀ {l : List (ByteArray × β)}, getM k l = none → delM k l = l
  | [], _ => rfl
  | e :: l, h => by
    rw [getM] at h
    split at h
    · cases h
    · rename_i hne; rw [delM, if_neg hne, delM_none h]
theorem getM_del_ne {β : Type} {k k2 : ByteArray} (hne : k ≠ k2) : ∀ {l : List (ByteArray × β)}, getM k (delM k2 l) = getM k l
  | [] => rfl
  | e :: l => by
    rw [delM]
    split
    · rename_i h
      have := (MapKept.bytes_beq _ _).1 h
      rw [getM, ← this, if_neg (by rw [ba_ne hne]; simp)]
    · rw [getM, getM, getM_del_ne hne]
theorem er_del (k : ByteArray) (E : List DE) : er (delM k E) = delM k (er E) := delM_map (fun x : Nat × Fl => x.2) k E
theorem ptrs_del (k : ByteArray) (E : List DE) : ptrs (delM k E) = delM k (ptrs E) := delM_map (fun x : Nat × Fl => Value.pointer (some ⟨x.1, 0, none⟩)) k E

theorem gone_open {d m : Nat} {E : List DE} {st : DS} (i : Inv st) (k : ByteArray) (hE : er E = st.fs) (hw : Sat R (DO d m E st Hs) w) :
    Gets Try.prog 51 #[.pointer (some ⟨d, 0, none⟩), .string k] w fun r w' => r = .tuple #[] ∧ Sat R (DO d m (delM k E) { st with fs := delM k st.fs } Hs) w' := by
  have hnn := total_nn st.fs
  have r1 := i.r1; have hfull := i.full
  apply call51
  refine NilP.mk rfl ⟨some m, At.own (eqS hw) (by exact ⟨rfl, trivial⟩), _, _, fun w' hw' => DO.look (eqS hw _ hw') k true, ?_⟩
  refine Br.mk (fun hk => ?_) (fun hk => ?_)
  · obtain ⟨⟨q, f⟩, hf⟩ := Option.isSome_iff_exists.1 hk
    obtain ⟨a, b, rfl, ha⟩ := getM_split hf
    rw [hf]
    have ht : total st.fs = total (er a ++ er b) + f.b.length := by rw [← hE, er_app, er_cons, total_one]
    have hnn2 := total_nn (er a ++ er b)
    have hw : Sat R (FilesAt (a ++ (k, q, f) :: b) :: pts d (dCells st m) :: MapAt m (ptrs (a ++ (k, q, f) :: b)) :: Hs) w := (hw.cons fun _ h => h.swap).swap
    obtain ⟨s, hw⟩ := Sat.file.1 (Sat.split.1 hw)
    have hlen : s.len = f.b.length := by have := Own.len hw.swap; rwa [List.length_map] at this
    refine drw_rule hw fun w hw => ?_
    refine NilP.mk rfl ⟨total st.fs, At.own selfS (by exact ⟨rfl, trivial⟩), NilP.mk rfl ⟨s, by rw [add_off]; exact At.own selfS (by exact ⟨rfl, trivial⟩), NilP.mk rfl ?_⟩⟩
    rw [wrap64 (by omega) (by omega)]
    refine store_rule hw (by kernel_rfl) rfl (by simp [Value.cells]) fun w hw => NilP.mk rfl ⟨some m, At.own (eqS hw) (by exact ⟨rfl, trivial⟩), ?_⟩
    refine MapAt.del mapT (hw.take (MapAt m (ptrs (a ++ (k, q, f) :: b)))) k fun w hw => ⟨rfl, ?_⟩
    have ep : delM k (ptrs (a ++ (k, q, f) :: b)) = ptrs (a ++ b) := by
      rw [ptrs_app, show ptrs ((k, q, f) :: b) = (k, Value.pointer (some ⟨q, 0, none⟩)) :: ptrs b from rfl, delM_app (by rw [ptrs_get, ha]; rfl) (ba_rfl k), ← ptrs_app]
    have eE : delM k (a ++ (k, q, f) :: b) = a ++ b := delM_app ha (ba_rfl k)
    have ef : delM k st.fs = er (a ++ b) := by rw [← hE, ← er_del, eE]
    rw [ep] at hw
    rw [eE]
    unfold DO dCells
    simp only [ef, er_app]
    have e3 : total st.fs - (s.len : Int) = total (er a ++ er b) := by omega
    rw [e3] at hw
    exact hw.swap.cons fun _ h => h.cons fun _ h => h.drop.drop
  · simp only [Option.isSome_eq_false_iff, Option.isNone_iff_eq_none] at hk
    rw [delM_none hk, delM_none (by rw [← hE, er_get, hk]; rfl)]
    exact ⟨rfl, hw⟩

def renameG (k to : ByteArray) (st : DS) : DS × Int :=
  match getM k st.fs with
  | some f => if k = to then (st, 0) else ({ st with fs := delM k (delM to st.fs) ++ [(to, f)] }, 0)
  | none => (st, 2)
def renameD (st : DS) (k to : ByteArray) : DS × Int := doing st (nameOk k && nameOk to) (renameG k to)

theorem getM_del_self {β : Type} (k : ByteArray) : ∀ {l : List (ByteArray × β)}, (l.map (·.1)).Nodup → getM k (delM k l) = none
  | [], _ => rfl
  | e :: l, h => by
    rw [List.map_cons, List.nodup_cons] at h
    rw [delM]
    split
    · rename_i hk
      have e1 := (MapKept.bytes_beq _ _).1 hk
      exact getM_of_notin (by rw [e1]; exact h.1)
    · rename_i hk
      rw [getM, if_neg hk, getM_del_self k h.2]

theorem total_get {k : ByteArray} {f : Fl} : ∀ {fs : Fs}, getM k fs = some f → total fs = total (delM k fs) + f.b.length
  | fs, h => by
    obtain ⟨a, b, rfl, ha⟩ := getM_split h
    rw [delM_app ha (ba_rfl k), total_one]


theorem rename1_spec {d m q bd bn bt : Nat} {st : DS} {a b : List DE} {k to : ByteArray} {f : Fl} (i : Inv st) (ha : getM k a = none) (hE : er (a ++ (k, q, f) :: b) = st.fs) (hw : Sat R (DO d m (a ++ (k, q, f) :: b) st Hs) w)
    {Rest1 Rest2 Rest3 : List HP} {T1 T2 T3 : TypeId} [t1 : TakeP bd Hs (.cells [.pointer (some ⟨d, 0, none⟩)].toArray T1 (0, 0)) Rest1] [t2 : TakeP bn Hs (.cells [.string k].toArray T2 (0, 0)) Rest2] [t3 : TakeP bt Hs (.cells [.string to].toArray T3 (0, 0)) Rest3] :
    Gets Try.prog 50 #[.pointer (some ⟨q, 0, none⟩), .pointer (some ⟨bn, 0, none⟩), .pointer (some ⟨bt, 0, none⟩), .pointer (some ⟨bd, 0, none⟩)] w fun r w' => r = .tuple #[] ∧ (renameG k to st).2 = 0 ∧ Sat R (DiskAt d (renameG k to st).1 :: Hs) w' := by
  have hk0 : getM k (a ++ (k, q, f) :: b) = some (q, f) := getM_app ha (ba_rfl k)
  have hk : getM k st.fs = some f := by rw [← hE, er_get, hk0]; rfl
  apply call50
  refine NilP.mk rfl ⟨k, At.own (eqS hw) (by exact ⟨rfl, trivial⟩), NilP.mk rfl ⟨to, At.own (eqS hw) (by exact ⟨rfl, trivial⟩), ?_⟩⟩
  have hto : (k.toList == to.toList) = decide (k = to) := by
    rw [ByteArray.toList_eq, ByteArray.toList_eq]
    by_cases h : k = to
    · simp [h]
    · have : k.data ≠ to.data := fun h2 => h (by cases k; cases to; simp_all)
      simp [h, this]
  rw [hto]
  refine Br.mk (fun h => ?_) (fun h => ?_) <;> simp only [decide_eq_true_eq, decide_eq_false_iff_not] at h
  · have e : renameG k to st = (st, 0) := by unfold renameG; rw [hk]; exact if_pos h
    rw [e]
    exact ⟨rfl, rfl, DO.shut hE hw⟩
  have e : renameG k to st = ({ st with fs := delM k (delM to st.fs) ++ [(to, f)] }, 0) := by unfold renameG; rw [hk]; exact if_neg h
  rw [e]
  refine NilP.mk rfl ⟨_, At.own (eqS hw) (by exact ⟨rfl, trivial⟩), NilP.mk rfl ⟨_, At.own (eqS hw) (by exact ⟨rfl, trivial⟩), ?_⟩⟩
  refine (gone_open i to hE hw).use ?_
  rintro _ w ⟨rfl, hw⟩
  refine ⟨rfl, ?_⟩
  generalize hEe : delM to (a ++ (k, q, f) :: b) = E1 at hw
  have hk1 : getM k E1 = some (q, f) := by rw [← hEe, getM_del_ne h, hk0]
  have hE1 : er E1 = delM to st.fs := by rw [← hEe, er_del, hE]
  have hu1 : (E1.map (·.1)).Nodup := by
    rw [← hEe]
    have hu : ((a ++ (k, q, f) :: b).map (·.1)).Nodup := by
      have : (a ++ (k, q, f) :: b).map (·.1) = st.fs.map (·.1) := by rw [← hE]; simp [er, Function.comp_def]
      rw [this]; exact i.uni
    exact ((delM_sub to _).map _).nodup hu
  have htonone : getM to E1 = none := by
    rw [← hEe]
    refine getM_del_self to ?_
    have : (a ++ (k, q, f) :: b).map (·.1) = st.fs.map (·.1) := by rw [← hE]; simp [er, Function.comp_def]
    rw [this]; exact i.uni
  obtain ⟨a1, b1, rfl, ha1⟩ := getM_split hk1
  have hdel : delM k (a1 ++ (k, q, f) :: b1) = a1 ++ b1 := delM_app ha1 (ba_rfl k)
  refine drw_rule' (fun w => Sat R (pts d (dCells { st with fs := delM to st.fs } m) :: FilesAt (a1 ++ (k, q, f) :: b1) :: Hs) w) hw (fun w h => h.swap.drop) fun w hw => ?_
  refine NilP.mk rfl ⟨some ⟨d, 0, none⟩, At.own selfS (by exact ⟨rfl, trivial⟩), NilP.mk rfl ⟨some m, At.own selfS (by exact ⟨rfl, trivial⟩), NilP.mk rfl ⟨k, At.own selfS (by exact ⟨rfl, trivial⟩), ?_⟩⟩⟩
  have ep : delM k (ptrs (a1 ++ (k, q, f) :: b1)) = ptrs (a1 ++ b1) := by rw [← ptrs_del, hdel]
  refine MapAt.del mapT (hw.take (MapAt m (ptrs (a1 ++ (k, q, f) :: b1)))) k fun w hw => ?_
  rw [ep] at hw
  refine ⟨hw.drop, drw_rule hw fun w hw => ?_⟩
  refine NilP.mk rfl ⟨some ⟨d, 0, none⟩, At.own selfS (by exact ⟨rfl, trivial⟩), NilP.mk rfl ⟨some m, At.own selfS (by exact ⟨rfl, trivial⟩), NilP.mk rfl ⟨to, At.own selfS (by exact ⟨rfl, trivial⟩), ?_⟩⟩⟩
  refine MapAt.put mapT hw to (.pointer (some ⟨q, 0, none⟩)) fun w hw => ⟨rfl, rfl, ?_⟩
  have hno : getM to (a1 ++ b1) = none := by rw [← hdel, getM_del_ne (fun h2 => h h2.symm)]; exact htonone
  have ep2 : putM to (.pointer (some ⟨q, 0, none⟩)) (ptrs (a1 ++ b1)) = ptrs (a1 ++ b1 ++ [(to, q, f)]) := by
    unfold putM; rw [ptrs_get, hno]; simp [ptrs]
  rw [ep2] at hw
  have ef : delM k (delM to st.fs) ++ [(to, f)] = er (a1 ++ b1 ++ [(to, q, f)]) := by
    rw [er_app, ← hdel, er_del, hE1]; rfl
  have ht : total (delM k (delM to st.fs) ++ [(to, f)]) = total (delM to st.fs) := by
    have hg : getM k (delM to st.fs) = some f := by rw [← hE1, er_get, hk1]; rfl
    rw [total_get hg, total_app]; simp [total_cons, total_nil]
  refine Sat.disk.2 ⟨m, a1 ++ b1 ++ [(to, q, f)], ef.symm, ?_⟩
  unfold dCells
  simp only [ht]
  refine hw.swap.cons fun _ h => h.cons fun _ h => ?_
  have h2 := Sat.split.1 h
  have h3 : Sat _ (FilesAt ((a1 ++ b1) ++ (to, q, f) :: []) :: Hs) w := Sat.split.2 (by simpa using h2)
  simpa using h3

theorem renameG_inv {st : DS} {k to : ByteArray} (i : Inv st) (hto : nameOk to = true) : Inv (renameG k to st).1 := by
  unfold renameG
  split
  · rename_i f hf
    split
    · exact i
    · rename_i hne
      have hg : getM k (delM to st.fs) = some f := by rw [getM_del_ne hne]; exact hf
      have hno : getM to (delM k (delM to st.fs)) = none := by rw [getM_del_ne (fun h2 => hne h2.symm)]; exact getM_del_self to i.uni
      have hfm : f.sure ≤ f.b.length := by
        obtain ⟨a, b, e, _⟩ := getM_split hf
        exact i.sure (k, f) (by rw [e]; simp)
      refine { toCounts := ⟨i.a0, i.a1, i.f0, i.f1⟩, r0 := i.r0, r1 := i.r1, full := ?_, uni := uni_app (uni_del (uni_del i.uni to) k) hno, names := ?_, sure := sure_app (sure_del (sure_del i.sure to) k) hfm }
      all_goals (have := total_get hg)
      all_goals (have h2 := delM_total to st.fs)
      all_goals (have := i.full)
      · simp only [total_app, total_cons, total_nil]
        omega
      · intro x hx
        simp only [List.map_append, List.mem_append] at hx
        rcases hx with hx | hx
        · exact i.names x ((((delM_sub k _).trans (delM_sub to st.fs)).map _).subset hx)
        · simp at hx; subst hx; exact hto
  · exact i

theorem rename_inv {st : DS} (i : Inv st) (k to : ByteArray) : Inv (renameD st k to).1 := by
  unfold renameD doing
  split
  · rename_i h; have h2 := chg_ok h; simp only [Bool.and_eq_true] at h2; exact renameG_inv (chg_inv i _) h2.2
  · exact chg_inv i _

theorem rename_spec {d : Nat} {st : DS} {k to : ByteArray} (i : Inv st) (hw : Sat R (DiskAt d st :: Hs) w) :
    Gets Try.prog 33 #[.pointer (some ⟨d, 0, none⟩), .string k, .string to] w fun r w' => r = .int .i64 (renameD st k to).2 ∧ Sat R (DiskAt d (renameD st k to).1 :: Hs) w' := by
  apply call33
  refine new_rule hw fun bd w hw => new_rule hw fun bn w hw => new_rule hw fun bto w hw => ?_
  have hw : Sat R (DiskAt d st :: box bd (.pointer (some ⟨d, 0, none⟩)) 22 :: box bn (.string k) 9 :: box bto (.string to) 9 :: Hs) w :=
    (hw.take (DiskAt d st)).cons fun _ h => (h.take (box bd (.pointer (some ⟨d, 0, none⟩)) 22)).cons fun _ h => h.swap
  have toS : ∀ {w}, Sat R (box bd (.pointer (some ⟨d, 0, none⟩)) 22 :: box bn (.string k) 9 :: box bto (.string to) 9 :: Hs) w → Sat R (box bd (.pointer (some ⟨d, 0, none⟩)) 22 :: box bn (.string k) 9 :: box bto (.string to) 9 :: VC.tru :: []) w := fun h =>
    Sat.toTru (As := [_, _, _]) h
  have hm : ∀ (R : Cx) (X : List HP) st m a q f b w, Inv st → getM k a = none → er (a ++ (k, q, f) :: b) = st.fs → Sat R (DO d m (a ++ (k, q, f) :: b) st (X ++ (box bd (.pointer (some ⟨d, 0, none⟩)) 22 :: box bn (.string k) 9 :: box bto (.string to) 9 :: Hs))) w →
      CalW Try.prog cl (.func (.func 50) #[] #[.pointer (some ⟨bn, 0, none⟩), .pointer (some ⟨bto, 0, none⟩), .pointer (some ⟨bd, 0, none⟩)]) [.pointer (some ⟨q, 0, none⟩)] w (fun e w' => e = .returned (.tuple #[]) ∧ (renameG k to st).2 = 0 ∧ Sat R (DiskAt d (renameG k to st).1 :: (X ++ (box bd (.pointer (some ⟨d, 0, none⟩)) 22 :: box bn (.string k) 9 :: box bto (.string to) 9 :: Hs))) w') := by
    intro R X st m a q f b w i ha hE hw
    show Calls Try.prog _ _ w _
    refine (rename1_spec i ha hE hw).use ?_
    rintro _ w ⟨rfl, h⟩; exact ⟨rfl, h⟩
  have hn : ∀ st, getM k st.fs = none → renameG k to st = (st, 2) := by intro st h; unfold renameG; rw [h]
  have all2 : [k, to].all nameOk = (nameOk k && nameOk to) := by simp
  refine drw_rule' (fun w => Sat R (box bd (.pointer (some ⟨d, 0, none⟩)) 22 :: box bn (.string k) 9 :: box bto (.string to) 9 :: tru :: []) w) hw (fun w h => toS h.drop) fun w hw => ?_
  refine ⟨_, At.own selfS (by exact ⟨rfl, trivial⟩), _, At.own selfS (by exact ⟨rfl, trivial⟩), _, At.own selfS (by exact ⟨rfl, trivial⟩), _, At.own selfS (by exact ⟨rfl, trivial⟩), _, At.own selfS (by exact ⟨rfl, trivial⟩), ?_, ?_⟩
  · refine (one_spec (renameG k to) i rfl hw hm hn).use ?_
    rintro c w ⟨Hs', hw, back, k2⟩
    refine ⟨c, rfl, toS (back _ _ hw.drop), new_rule hw fun bt w hw => ?_⟩
    obtain ⟨hc, hwl⟩ := Sat.lend.1 hw
    refine ⟨toS (back _ _ hw.drop.drop), (k2 _ _ [k, to] w hwl (ro_two hc) (by simp)).use ?_⟩
    rw [all2]
    rintro _ w ⟨rfl, hw⟩
    have hw := (Sat.lend.2 ⟨hc, hw⟩).drop
    exact ⟨_, rfl, toS (back _ _ hw.drop), rfl, hw.cons fun _ h => (back _ _ h).drop.drop.drop⟩
  · refine new_rule hw fun bt w hw => ?_
    obtain ⟨hc, hwl⟩ := Sat.lend.1 hw
    refine ⟨toS hw.drop.drop, ?_⟩
    refine (one_spec (renameG k to) i rfl hwl hm hn).use ?_
    rintro c w ⟨Hs', hw, back, k2⟩
    refine ⟨c, rfl, toS (back _ _ (Sat.lend.2 ⟨hc, hw⟩).drop.drop), (k2 _ _ [k, to] w hw (ro_two hc) (by simp)).use ?_⟩
    rw [all2]
    rintro _ w ⟨rfl, hw⟩
    have hw := (Sat.lend.2 ⟨hc, hw⟩).drop
    exact ⟨_, rfl, toS (back _ _ hw.drop), rfl, hw.cons fun _ h => (back _ _ h).drop.drop.drop⟩

end Go.Proofs.Ytbniilhfbfcegaa
