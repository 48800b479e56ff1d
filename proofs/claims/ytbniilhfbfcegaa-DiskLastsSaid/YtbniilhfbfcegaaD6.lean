/- The disk: Sync, Unlink, Rename, Read. Condition: none. -/
import Derived.Test.YtbniilhfbfcegaaD4
namespace Go.Proofs.Ytbniilhfbfcegaa
open Go Go.VC

variable {R : Cx} {Hs Rest : List HP} {w : World}

instance TakeP.app {b : Nat} {X Hs : List HP} {o : Obj} {Rest : List HP} [t : TakeP b Hs o Rest] : TakeP b (X ++ Hs) o (X ++ Rest) :=
  ⟨(t.perm.append_left X).trans List.perm_middle⟩

/-- The boxes of a change of one name. -/
abbrev bx (bm bn bd d : Nat) (v : Value) (k : ByteArray) (Hs : List HP) : List HP :=
  box bm v 66 :: box bn (.string k) 9 :: box bd (.pointer (some ⟨d, 0, none⟩)) 22 :: Hs

theorem with_spec {d : Nat} {k : ByteArray} {v : Value} (hv : v.cells = #[v]) (hw : Sat R Hs w) :
    Gets Try.prog 27 #[.pointer (some ⟨d, 0, none⟩), .string k, v] w fun r w' => ∃ bm bn bd, r = .func (.func 46) #[] #[.pointer (some ⟨bd, 0, none⟩), .pointer (some ⟨bn, 0, none⟩), .pointer (some ⟨bm, 0, none⟩)] ∧ Sat R (bx bm bn bd d v k Hs) w' := by
  apply call27
  refine new_rule hw fun bd w hw => new_rule hw fun bn w hw => ?_
  rw [hv]
  exact new_rule hw fun bm w hw => ⟨bm, bn, bd, rfl, hw⟩

theorem with1_spec {d bm bn bd : Nat} {st : DS} {k : ByteArray} {v : Value} {Q : Int → World → Prop} (hw : Sat R (DiskAt d st :: bx bm bn bd d v k Hs) w)
    (hm : ∀ m a q f b w, getM k a = none → er (a ++ (k, q, f) :: b) = st.fs → Sat R (DO d m (a ++ (k, q, f) :: b) st (bx bm bn bd d v k Hs)) w →
      CalW Try.prog cl v [.pointer (some ⟨q, 0, none⟩)] w (fun e w' => e = .returned (.tuple #[]) ∧ Q 0 w'))
    (hn : getM k st.fs = none → ∀ w, Sat R (DiskAt d st :: bx bm bn bd d v k Hs) w → Q 2 w) :
    Gets Try.prog 46 #[.pointer (some ⟨bd, 0, none⟩), .pointer (some ⟨bn, 0, none⟩), .pointer (some ⟨bm, 0, none⟩)] w fun r w' => ∃ n : Int, r = .int .i64 n ∧ Q n w' := by
  apply call46
  obtain ⟨m, E, hE, hw⟩ := Sat.disk.1 hw
  refine drw_rule hw fun w hw => ?_
  refine NilP.mk rfl ⟨some ⟨d, 0, none⟩, At.own selfS (by exact ⟨rfl, trivial⟩), NilP.mk rfl ⟨some m, At.own selfS (by exact ⟨rfl, trivial⟩), NilP.mk rfl ⟨k, At.own selfS (by exact ⟨rfl, trivial⟩), _, _, fun w' hw' => DO.look hw' k true, ?_⟩⟩⟩
  refine Br.mk (fun hk => ?_) (fun hk => ?_)
  · simp only [Bool.not_eq_true', Option.isSome_eq_false_iff, Option.isNone_iff_eq_none] at hk
    exact ⟨2, rfl, hn (by rw [← hE, er_get, hk]; rfl) w (Sat.disk.2 ⟨m, E, hE, hw⟩)⟩
  · simp only [Bool.not_eq_false'] at hk
    obtain ⟨⟨q, f⟩, hf⟩ := Option.isSome_iff_exists.1 hk
    obtain ⟨a, b, rfl, ha⟩ := getM_split hf
    rw [hf]
    refine NilP.mk rfl ⟨v, At.own (eqS hw) (by exact ⟨rfl, trivial⟩), (hm m a q f b w ha hE hw).mono ?_⟩
    rintro _ w ⟨rfl, hq⟩
    exact ⟨rfl, 0, rfl, hq⟩

/-- A change of one name, with a function that is called on its file. -/
theorem one_spec {d : Nat} {st : DS} {k : ByteArray} {v : Value} (g : DS → DS × Int) (i : Inv st) (hv : v.cells = #[v]) (hw : Sat R (DiskAt d st :: Hs) w)
    (hm : ∀ (R : Cx) (X : List HP) st m a q f b w, Inv st → getM k a = none → er (a ++ (k, q, f) :: b) = st.fs → Sat R (DO d m (a ++ (k, q, f) :: b) st (X ++ Hs)) w →
      CalW Try.prog cl v [.pointer (some ⟨q, 0, none⟩)] w (fun e w' => e = .returned (.tuple #[]) ∧ (g st).2 = 0 ∧ Sat R (DiskAt d (g st).1 :: (X ++ Hs)) w'))
    (hn : ∀ st, getM k st.fs = none → g st = (st, 2)) :
    Gets Try.prog 27 #[.pointer (some ⟨d, 0, none⟩), .string k, v] w fun c w => ∃ Hs', Sat R (DiskAt d st :: Hs') w ∧ (∀ R w, Sat R Hs' w → Sat R Hs w) ∧
      ∀ (R' : Cx) (s : Sl) (ks : List ByteArray) w, Sat R' (DiskAt d st :: Hs') w → Ro R' s (ks.map Value.string) → ks.length ≤ 1000 →
        Gets Try.prog 24 #[.pointer (some ⟨d, 0, none⟩), c, .slice s.a s.len s.cap] w fun r w' => r = .int .i64 (doing st (ks.all nameOk) g).2 ∧ Sat R' (DiskAt d (doing st (ks.all nameOk) g).1 :: Hs') w' := by
  refine (with_spec hv hw).mono ?_
  rintro _ w ⟨bm, bn, bd, rfl, hw⟩
  refine ⟨bx bm bn bd d v k Hs, hw.take (DiskAt d st), fun R w h => h.drop.drop.drop, fun R' s ks w hw hs hks => ?_⟩
  refine (change_spec (Q := fun n w => n = (doing st (ks.all nameOk) g).2 ∧ Sat R' (DiskAt d (doing st (ks.all nameOk) g).1 :: bx bm bn bd d v k Hs) w) hw i.toCounts hs hks ?_ ?_).mono ?_
  · intro h0 w hw
    have e : doing st (ks.all nameOk) g = g (chg st (ks.all nameOk)).1 := if_pos h0
    rw [e]
    show Calls Try.prog _ _ w _
    refine (with1_spec (Q := fun n w => n = (g (chg st (ks.all nameOk)).1).2 ∧ Sat R' (DiskAt d (g (chg st (ks.all nameOk)).1).1 :: bx bm bn bd d v k Hs) w) hw ?_ ?_).use ?_
    · intro m a q f b w ha hE hw
      refine (hm R' [box bm v 66, box bn (.string k) 9, box bd (.pointer (some ⟨d, 0, none⟩)) 22 ] _ m a q f b w (chg_inv i _) ha hE hw).mono ?_
      rintro _ w ⟨rfl, h1, h2⟩
      exact ⟨rfl, h1.symm, h2⟩
    · intro hnone w hw
      rw [hn _ hnone]; exact ⟨rfl, hw⟩
    · rintro _ w ⟨n, rfl, hq⟩; exact ⟨n, rfl, hq⟩
  · intro e h0 hne w hw
    have e2 : doing st (ks.all nameOk) g = chg st (ks.all nameOk) := if_neg (by rw [h0]; exact hne)
    rw [e2]; exact ⟨h0.symm, hw⟩
  · rintro _ w ⟨n, rfl, rfl, hw⟩; exact ⟨rfl, hw⟩

end Go.Proofs.Ytbniilhfbfcegaa
