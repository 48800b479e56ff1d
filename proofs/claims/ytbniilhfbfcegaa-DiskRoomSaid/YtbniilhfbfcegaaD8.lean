/- The disk: Unlink, Rename. Condition: none. -/
import Derived.Test.YtbniilhfbfcegaaD7
namespace Go.Proofs.Ytbniilhfbfcegaa
open Go Go.VC

variable {R : Cx} {Hs Rest : List HP} {w : World}

theorem delM_sub {β : Type} (k : ByteArray) : ∀ l : List (ByteArray × β), (delM k l).Sublist l
  | [] => List.Sublist.refl _
  | x :: l => by
    rw [delM]; split
    · exact List.sublist_cons_self _ _
    · exact (delM_sub k l).cons_cons _
theorem uni_del {fs : Fs} (h : Uni fs) (k : ByteArray) : Uni (delM k fs) := ((delM_sub k fs).map _).nodup h
theorem sure_del {fs : Fs} (h : SureOk fs) (k : ByteArray) : SureOk (delM k fs) := fun e he => h e ((delM_sub k fs).subset he)

/-! ### Unlink -/
def unlinkG (k : ByteArray) (st : DS) : DS × Int := if (getM k st.fs).isSome then ({ st with fs := delM k st.fs }, 0) else (st, 2)
def unlinkD (st : DS) (k : ByteArray) : DS × Int := doing st (nameOk k) (unlinkG k)

theorem del_inv {st : DS} (i : Inv st) (k : ByteArray) : Inv { st with fs := delM k st.fs } :=
  { toCounts := ⟨i.a0, i.a1, i.f0, i.f1⟩, r0 := i.r0, r1 := i.r1, full := by have := delM_total k st.fs; have := i.full; simp only; omega, uni := uni_del i.uni k, names := fun x hx => i.names x (((delM_sub k st.fs).map _).subset hx), sure := sure_del i.sure k }

theorem unlink_inv {st : DS} (i : Inv st) (k : ByteArray) : Inv (unlinkD st k).1 := by
  unfold unlinkD doing
  split
  · unfold unlinkG
    split
    · exact del_inv (chg_inv i _) k
    · exact chg_inv i _
  · exact chg_inv i _

/-- A disk that was laid open. -/
theorem DO.shut {d m : Nat} {E : List DE} {st : DS} (hE : er E = st.fs) (hw : Sat R (DO d m E st Hs) w) : Sat R (DiskAt d st :: Hs) w := Sat.disk.2 ⟨m, E, hE, hw⟩

theorem unlink1_spec {d m q bd bn : Nat} {st : DS} {a b : List DE} {k : ByteArray} {f : Fl} (i : Inv st) (ha : getM k a = none) (hE : er (a ++ (k, q, f) :: b) = st.fs) (hw : Sat R (DO d m (a ++ (k, q, f) :: b) st Hs) w)
    {Rest1 Rest2 : List HP} {T1 T2 : TypeId} [t1 : TakeP bd Hs (.cells [.pointer (some ⟨d, 0, none⟩)].toArray T1 (0, 0)) Rest1] [t2 : TakeP bn Hs (.cells [.string k].toArray T2 (0, 0)) Rest2] :
    Gets Try.prog 53 #[.pointer (some ⟨q, 0, none⟩), .pointer (some ⟨bd, 0, none⟩), .pointer (some ⟨bn, 0, none⟩)] w fun r w' => r = .tuple #[] ∧ (unlinkG k st).2 = 0 ∧ Sat R (DiskAt d (unlinkG k st).1 :: Hs) w' := by
  have hk : getM k st.fs = some f := by rw [← hE, er_app, er_cons, getM_app (by rw [er_get, ha]; rfl) (ba_rfl k)]
  have e : unlinkG k st = ({ st with fs := delM k st.fs }, 0) := if_pos (by rw [hk]; rfl)
  rw [e]
  have hw := DO.shut hE hw
  apply call53
  refine NilP.mk rfl ⟨some ⟨d, 0, none⟩, At.own (eqS hw) (by exact ⟨rfl, trivial⟩), NilP.mk rfl ⟨k, At.own (eqS hw) (by exact ⟨rfl, trivial⟩), ?_⟩⟩
  refine (gone_spec i k hw).use ?_
  rintro _ w ⟨rfl, hw⟩
  exact ⟨rfl, rfl, rfl, hw⟩

/-- What is not named any more. -/
theorem Sat.toTru : ∀ {As : List HP} {R : Cx} {w : World}, Sat R (As ++ Hs) w → Sat R (As ++ [VC.tru]) w
  | [], R, w, h => by
    have : ∀ {Hs : List HP} {R : Cx}, Sat R (VC.tru :: Hs) w → Sat R [VC.tru] w := fun {Hs} => by
      induction Hs with
      | nil => exact fun h => h
      | cons H Hs ih => exact fun h => ih h.swap.absorb
    exact this h.tru
  | A :: As, R, w, h => h.cons fun _ h => Sat.toTru (As := As) h

theorem unlink_spec {d : Nat} {st : DS} {k : ByteArray} (i : Inv st) (hw : Sat R (DiskAt d st :: Hs) w) :
    Gets Try.prog 35 #[.pointer (some ⟨d, 0, none⟩), .string k] w fun r w' => r = .int .i64 (unlinkD st k).2 ∧ Sat R (DiskAt d (unlinkD st k).1 :: Hs) w' := by
  apply call35
  refine new_rule hw fun bd w hw => new_rule hw fun bn w hw => ?_
  have hw : Sat R (DiskAt d st :: box bd (.pointer (some ⟨d, 0, none⟩)) 22 :: box bn (.string k) 9 :: Hs) w :=
    (hw.take (DiskAt d st)).cons fun _ h => h.swap
  have toS : ∀ {w}, Sat R (box bd (.pointer (some ⟨d, 0, none⟩)) 22 :: box bn (.string k) 9 :: Hs) w → Sat R (box bd (.pointer (some ⟨d, 0, none⟩)) 22 :: box bn (.string k) 9 :: VC.tru :: []) w := fun h =>
    Sat.toTru (As := [_, _]) h
  have hm : ∀ (R : Cx) (X : List HP) st m a q f b w, Inv st → getM k a = none → er (a ++ (k, q, f) :: b) = st.fs → Sat R (DO d m (a ++ (k, q, f) :: b) st (X ++ (box bd (.pointer (some ⟨d, 0, none⟩)) 22 :: box bn (.string k) 9 :: Hs))) w →
      CalW Try.prog cl (.func (.func 53) #[] #[.pointer (some ⟨bd, 0, none⟩), .pointer (some ⟨bn, 0, none⟩)]) [.pointer (some ⟨q, 0, none⟩)] w (fun e w' => e = .returned (.tuple #[]) ∧ (unlinkG k st).2 = 0 ∧ Sat R (DiskAt d (unlinkG k st).1 :: (X ++ (box bd (.pointer (some ⟨d, 0, none⟩)) 22 :: box bn (.string k) 9 :: Hs))) w') := by
    intro R X st m a q f b w i ha hE hw
    show Calls Try.prog _ _ w _
    refine (unlink1_spec i ha hE hw).use ?_
    rintro _ w ⟨rfl, h⟩; exact ⟨rfl, h⟩
  have hn : ∀ st, getM k st.fs = none → unlinkG k st = (st, 2) := by intro st h; unfold unlinkG; rw [h]; rfl
  refine drw_rule' (fun w => Sat R (box bd (.pointer (some ⟨d, 0, none⟩)) 22 :: box bn (.string k) 9 :: tru :: []) w) hw (fun w h => toS h.drop) fun w hw => ?_
  refine ⟨_, At.own selfS (by exact ⟨rfl, trivial⟩), _, At.own selfS (by exact ⟨rfl, trivial⟩), _, At.own selfS (by exact ⟨rfl, trivial⟩), _, At.own selfS (by exact ⟨rfl, trivial⟩), ?_, ?_⟩
  · refine (one_spec (unlinkG k) i rfl hw hm hn).use ?_
    rintro c w ⟨Hs', hw, back, k2⟩
    refine ⟨c, rfl, toS (back _ _ hw.drop), new_rule hw fun bt w hw => ?_⟩
    obtain ⟨hc, hwl⟩ := Sat.lend.1 hw
    refine ⟨toS (back _ _ hw.drop.drop), (k2 _ _ [k] w hwl (ro_one hc) (by simp)).use ?_⟩
    rw [all_one]
    rintro _ w ⟨rfl, hw⟩
    have hw := (Sat.lend.2 ⟨hc, hw⟩).drop
    exact ⟨_, rfl, toS (back _ _ hw.drop), rfl, hw.cons fun _ h => (back _ _ h).drop.drop⟩
  · refine new_rule hw fun bt w hw => ?_
    obtain ⟨hc, hwl⟩ := Sat.lend.1 hw
    refine ⟨toS hw.drop.drop, ?_⟩
    refine (one_spec (unlinkG k) i rfl hwl hm hn).use ?_
    rintro c w ⟨Hs', hw, back, k2⟩
    refine ⟨c, rfl, toS (back _ _ (Sat.lend.2 ⟨hc, hw⟩).drop.drop), (k2 _ _ [k] w hw (ro_one hc) (by simp)).use ?_⟩
    rw [all_one]
    rintro _ w ⟨rfl, hw⟩
    have hw := (Sat.lend.2 ⟨hc, hw⟩).drop
    exact ⟨_, rfl, toS (back _ _ hw.drop), rfl, hw.cons fun _ h => (back _ _ h).drop.drop⟩

end Go.Proofs.Ytbniilhfbfcegaa
