/- The reference's disk: Sync, Unlink, Rename, Read, Fail, Arm, Crash. Condition: bounds on lengths. -/
import Derived.Test.YtbniilhfbfcegaaE3
namespace Go.Proofs.Ytbniilhfbfcegaa
open Go Go.VC

variable {R : Cx} {Hs Rest : List HP} {w : World}

theorem failR_spec {r : Nat} {st : DS} (n : Int) (hw : Sat R (RefAt r st :: Hs) w) :
    Gets Try.prog 38 #[.pointer (some ⟨r, 0, none⟩), .int .i64 n] w fun v w' => v = .int .i64 (if n < 0 then 1 else 0) ∧ Sat R (RefAt r { st with fail := if n < 0 then st.fail else n } :: Hs) w' := by
  obtain ⟨s, E, hE, hw⟩ := Sat.ref.1 hw
  apply call38
  (first | with_reducible refine Br.d (fun h => ?_) (fun h => ?_) | with_reducible refine Br.nd (fun h => ?_) (fun h => ?_) | with_reducible refine Br.e (fun h => ?_) (fun h => ?_) | with_reducible refine Br.ne (fun h => ?_) (fun h => ?_) | with_reducible refine Br.nne (fun h => ?_) (fun h => ?_) | with_reducible refine Br.se (fun h => ?_) (fun h => ?_) | with_reducible refine Br.sne (fun h => ?_) (fun h => ?_) | with_reducible refine Br.nb (fun h => ?_) (fun h => ?_) | with_reducible refine Br.mk (fun h => ?_) (fun h => ?_) | refine Br.d (fun h => ?_) (fun h => ?_) | refine Br.nd (fun h => ?_) (fun h => ?_) | refine Br.e (fun h => ?_) (fun h => ?_) | refine Br.ne (fun h => ?_) (fun h => ?_) | refine Br.nne (fun h => ?_) (fun h => ?_) | refine Br.se (fun h => ?_) (fun h => ?_) | refine Br.mk (fun h => ?_) (fun h => ?_))
  · rw [if_pos h, if_pos h]; exact ⟨rfl, RO.shut hE hw⟩
  · repeat (first | refine NilP.mk rfl ?_ | refine ⟨_, At.own selfS (by exact ⟨rfl, trivial⟩), ?_⟩ | refine ⟨_, At.own (eqS hw) (by exact ⟨rfl, trivial⟩), ?_⟩ | refine ⟨_, (by rw [add_off]; exact At.own selfS (by exact ⟨rfl, trivial⟩)), ?_⟩ | refine ⟨_, (by rw [add_off]; exact At.own (eqS hw) (by exact ⟨rfl, trivial⟩)), ?_⟩)
    refine store_rule hw (by kernel_rfl) rfl (by simp [Value.cells, putL_len]) fun w hw => ?_
    rw [if_neg h, if_neg h]; exact ⟨rfl, RO.shut hE hw⟩

theorem armR_spec {r : Nat} {st : DS} (n : Int) (hw : Sat R (RefAt r st :: Hs) w) :
    Gets Try.prog 39 #[.pointer (some ⟨r, 0, none⟩), .int .i64 n] w fun v w' => v = .int .i64 (if n < 0 then 1 else 0) ∧ Sat R (RefAt r { st with arm := if n < 0 then st.arm else n } :: Hs) w' := by
  obtain ⟨s, E, hE, hw⟩ := Sat.ref.1 hw
  apply call39
  (first | with_reducible refine Br.d (fun h => ?_) (fun h => ?_) | with_reducible refine Br.nd (fun h => ?_) (fun h => ?_) | with_reducible refine Br.e (fun h => ?_) (fun h => ?_) | with_reducible refine Br.ne (fun h => ?_) (fun h => ?_) | with_reducible refine Br.nne (fun h => ?_) (fun h => ?_) | with_reducible refine Br.se (fun h => ?_) (fun h => ?_) | with_reducible refine Br.sne (fun h => ?_) (fun h => ?_) | with_reducible refine Br.nb (fun h => ?_) (fun h => ?_) | with_reducible refine Br.mk (fun h => ?_) (fun h => ?_) | refine Br.d (fun h => ?_) (fun h => ?_) | refine Br.nd (fun h => ?_) (fun h => ?_) | refine Br.e (fun h => ?_) (fun h => ?_) | refine Br.ne (fun h => ?_) (fun h => ?_) | refine Br.nne (fun h => ?_) (fun h => ?_) | refine Br.se (fun h => ?_) (fun h => ?_) | refine Br.mk (fun h => ?_) (fun h => ?_))
  · rw [if_pos h, if_pos h]; exact ⟨rfl, RO.shut hE hw⟩
  · repeat (first | refine NilP.mk rfl ?_ | refine ⟨_, At.own selfS (by exact ⟨rfl, trivial⟩), ?_⟩ | refine ⟨_, At.own (eqS hw) (by exact ⟨rfl, trivial⟩), ?_⟩ | refine ⟨_, (by rw [add_off]; exact At.own selfS (by exact ⟨rfl, trivial⟩)), ?_⟩ | refine ⟨_, (by rw [add_off]; exact At.own (eqS hw) (by exact ⟨rfl, trivial⟩)), ?_⟩)
    refine store_rule hw (by kernel_rfl) rfl (by simp [Value.cells, putL_len]) fun w hw => ?_
    rw [if_neg h, if_neg h]; exact ⟨rfl, RO.shut hE hw⟩

theorem RO.len {r : Nat} {s : Sl} {E : List RE} {st : DS} (hw : Sat R (RO r s E st Hs) w) : s.len = E.length := by
  have := OwnN.len (hw.take (OwnN 3 s 78 (E.map rowR))); rwa [List.length_map] at this

theorem RO.blen {r : Nat} {s : Sl} {a b : List RE} {e : RE} {st : DS} (hw : Sat R (RO r s (a ++ e :: b) st Hs) w) : e.2.1.len = e.2.2.b.length ∧ e.2.1.len ≤ e.2.1.cap := by
  have h1 := Bufs.split.1 (hw.take (BufsAt (a ++ e :: b)))
  exact ⟨by have := Own.len h1; simpa using this, Own.cap h1⟩

theorem syncR_spec {r : Nat} {st : DS} {k : ByteArray} (i : Inv st) (hn : st.fs.length ≤ 1000000) (hk : k.size ≤ 9000000000000000000) (hw : Sat R (RefAt r st :: Hs) w) :
    Gets Try.prog 32 #[.pointer (some ⟨r, 0, none⟩), .string k] w fun v w' => v = .int .i64 (syncD st k).2 ∧ Sat R (RefAt r (syncD st k).1 :: Hs) w' := by
  apply call32
  refine (changeR_spec i.toCounts hk hk hw).use ?_
  rw [Bool.and_self]
  rintro _ w ⟨rfl, hw⟩
  refine ⟨_, rfl, ?_⟩
  (first | with_reducible refine Br.d (fun h => ?_) (fun h => ?_) | with_reducible refine Br.nd (fun h => ?_) (fun h => ?_) | with_reducible refine Br.e (fun h => ?_) (fun h => ?_) | with_reducible refine Br.ne (fun h => ?_) (fun h => ?_) | with_reducible refine Br.nne (fun h => ?_) (fun h => ?_) | with_reducible refine Br.se (fun h => ?_) (fun h => ?_) | with_reducible refine Br.sne (fun h => ?_) (fun h => ?_) | with_reducible refine Br.nb (fun h => ?_) (fun h => ?_) | with_reducible refine Br.mk (fun h => ?_) (fun h => ?_) | refine Br.d (fun h => ?_) (fun h => ?_) | refine Br.nd (fun h => ?_) (fun h => ?_) | refine Br.e (fun h => ?_) (fun h => ?_) | refine Br.ne (fun h => ?_) (fun h => ?_) | refine Br.nne (fun h => ?_) (fun h => ?_) | refine Br.se (fun h => ?_) (fun h => ?_) | refine Br.mk (fun h => ?_) (fun h => ?_))
  · have e : syncD st k = chg st (nameOk k) := if_neg h
    rw [e]; exact ⟨rfl, hw⟩
  have e : syncD st k = syncG k (chg st (nameOk k)).1 := if_pos h
  rw [e]
  have i2 := chg_inv i (nameOk k)
  have hn2 : (chg st (nameOk k)).1.fs.length ≤ 1000000 := by rw [(chg_fs st (nameOk k)).1]; exact hn
  generalize (chg st (nameOk k)).1 = st2 at *
  clear e i hn
  obtain ⟨s, E, hE, hw⟩ := Sat.ref.1 hw
  refine (place_spec k hE (by rw [← erR_len, hE]; exact hn2) hw).use ?_
  rintro _ w ⟨rfl, hw⟩
  refine ⟨_, rfl, ?_⟩
  cases hg : getM k st2.fs with
  | none =>
    rw [placeD_none hg]
    have e : syncG k st2 = (st2, 2) := by unfold syncG; rw [hg]; rfl
    rw [e]
    exact Br.t (by decide) ⟨rfl, RO.shut hE hw⟩
  | some f =>
    obtain ⟨a, sb, b, rfl, ha, hfs, hp⟩ := find_ref hE hg
    rw [hp]
    refine Br.f (by simp) ?_
    have e : syncG k st2 = ({ st2 with fs := updM k (fun f => { f with sure := f.b.length }) st2.fs }, 0) := if_pos (by rw [hg]; rfl)
    rw [e]
    have hlt : a.length < (a ++ (k, sb, f) :: b).length := by simp
    have hbl := (RO.blen hw).1
    simp only at hbl
    refine drw_rule hw fun w hw => ?_
    repeat (first | refine NilP.mk rfl ?_ | refine ⟨_, At.own selfS (by exact ⟨rfl, trivial⟩), ?_⟩ | refine ⟨_, At.own (eqS hw) (by exact ⟨rfl, trivial⟩), ?_⟩ | refine ⟨_, (by rw [add_off]; exact At.own selfS (by exact ⟨rfl, trivial⟩)), ?_⟩ | refine ⟨_, (by rw [add_off]; exact At.own (eqS hw) (by exact ⟨rfl, trivial⟩)), ?_⟩)
    have hr : ReadsN 3 s ((a ++ (k, sb, f) :: b).map rowR) (Sat R (RO r s (a ++ (k, sb, f) :: b) st2 Hs)) := RO.reads hw selfS
    refine hr.rngM hlt fun ad hadr el => ?_
    rw [getElem_mid hlt] at el
    refine ⟨_, el.f 1 (by exact ⟨rfl, trivial⟩), ?_⟩
    simp only
    refine hr.rngM hlt fun ad hadr el => ?_
    refine OwnN.storeM (E := a ++ (k, sb, f) :: b) (g := rowR) (T := 78) 2 (k, sb, { f with sure := f.b.length }) hw hadr hlt (by kernel_rfl) rfl (by simp [Value.cells]) (by rw [getElem_mid hlt, hbl]; rfl) fun w hw => ⟨trivial, ?_⟩
    rw [set_mid] at hw
    refine RO.shut (s := s) (E := a ++ (k, sb, { f with sure := f.b.length }) :: b) ?_ ?_
    · show _ = updM k _ st2.fs
      rw [hfs, updM_app ha, erR_app, erR_cons]
    · have hw : Sat R (BufsAt (a ++ (k, sb, f) :: b) :: pts r (rCells { st2 with fs := updM k (fun f => { f with sure := f.b.length }) st2.fs } s) :: OwnN 3 s 78 ((a ++ (k, sb, { f with sure := f.b.length }) :: b).map rowR) :: Hs) w := hw.arr
      have hw := (Bufs.split (a := a) (b := b) (e := (k, sb, { f with sure := f.b.length }))).2 ((Bufs.split (a := a) (b := b) (e := (k, sb, f))).1 hw)
      exact hw.arr

theorem unlinkR_spec {r : Nat} {st : DS} {k : ByteArray} (i : Inv st) (hn : st.fs.length ≤ 1000000) (hk : k.size ≤ 9000000000000000000) (hw : Sat R (RefAt r st :: Hs) w) :
    Gets Try.prog 36 #[.pointer (some ⟨r, 0, none⟩), .string k] w fun v w' => v = .int .i64 (unlinkD st k).2 ∧ Sat R (RefAt r (unlinkD st k).1 :: Hs) w' := by
  apply call36
  refine (changeR_spec i.toCounts hk hk hw).use ?_
  rw [Bool.and_self]
  rintro _ w ⟨rfl, hw⟩
  refine ⟨_, rfl, ?_⟩
  (first | with_reducible refine Br.d (fun h => ?_) (fun h => ?_) | with_reducible refine Br.nd (fun h => ?_) (fun h => ?_) | with_reducible refine Br.e (fun h => ?_) (fun h => ?_) | with_reducible refine Br.ne (fun h => ?_) (fun h => ?_) | with_reducible refine Br.nne (fun h => ?_) (fun h => ?_) | with_reducible refine Br.se (fun h => ?_) (fun h => ?_) | with_reducible refine Br.sne (fun h => ?_) (fun h => ?_) | with_reducible refine Br.nb (fun h => ?_) (fun h => ?_) | with_reducible refine Br.mk (fun h => ?_) (fun h => ?_) | refine Br.d (fun h => ?_) (fun h => ?_) | refine Br.nd (fun h => ?_) (fun h => ?_) | refine Br.e (fun h => ?_) (fun h => ?_) | refine Br.ne (fun h => ?_) (fun h => ?_) | refine Br.nne (fun h => ?_) (fun h => ?_) | refine Br.se (fun h => ?_) (fun h => ?_) | refine Br.mk (fun h => ?_) (fun h => ?_))
  · have e : unlinkD st k = chg st (nameOk k) := if_neg h
    rw [e]; exact ⟨rfl, hw⟩
  have e : unlinkD st k = unlinkG k (chg st (nameOk k)).1 := if_pos h
  rw [e]
  have hn2 : (chg st (nameOk k)).1.fs.length ≤ 1000000 := by rw [(chg_fs st (nameOk k)).1]; exact hn
  generalize (chg st (nameOk k)).1 = st2 at *
  clear e i hn
  obtain ⟨s, E, hE, hw⟩ := Sat.ref.1 hw
  refine (place_spec k hE (by rw [← erR_len, hE]; exact hn2) hw).use ?_
  rintro _ w ⟨rfl, hw⟩
  refine ⟨_, rfl, ?_⟩
  cases hg : getM k st2.fs with
  | none =>
    rw [placeD_none hg]
    have e : unlinkG k st2 = (st2, 2) := by unfold unlinkG; rw [hg]; rfl
    rw [e]
    exact Br.t (by decide) ⟨rfl, RO.shut hE hw⟩
  | some f =>
    obtain ⟨a, sb, b, rfl, ha, hfs, hp⟩ := find_ref hE hg
    rw [hp]
    refine Br.f (by simp) ?_
    have e : unlinkG k st2 = ({ st2 with fs := delM k st2.fs }, 0) := if_pos (by rw [hg]; rfl)
    rw [e]
    refine (outR_spec hE (by rw [← erR_len, hE]; exact hn2) hw).use ?_
    rintro _ w ⟨rfl, hw⟩
    have ed : erR (a ++ b) = delM k st2.fs := by rw [hfs, delM_app ha (ba_rfl k), erR_app]
    rw [ed] at hw
    exact ⟨rfl, rfl, hw.drop⟩

theorem readR_spec {r : Nat} {st : DS} {k : ByteArray} (i : Inv st) (hn : st.fs.length ≤ 1000000) (hk : k.size ≤ 9000000000000000000) (hw : Sat R (RefAt r st :: Hs) w) :
    Gets Try.prog 37 #[.pointer (some ⟨r, 0, none⟩), .string k] w fun v w' => ∃ t : Sl, v = .tuple #[.slice t.a t.len t.cap, .int .i64 (readD st k).2] ∧ Sat R (Own t 5 (b8 (readD st k).1) :: RefAt r st :: Hs) w' := by
  apply call37
  refine (isName_spec k hk hw).use ?_
  rintro _ w ⟨rfl, hw⟩
  refine ⟨_, rfl, ?_⟩
  obtain ⟨s, E, hE, hw⟩ := Sat.ref.1 hw
  have r1 := i.r1; have hfull := i.full
  repeat (first | refine NilP.mk rfl ?_ | refine ⟨_, At.own selfS (by exact ⟨rfl, trivial⟩), ?_⟩ | refine ⟨_, At.own (eqS hw) (by exact ⟨rfl, trivial⟩), ?_⟩ | refine ⟨_, (by rw [add_off]; exact At.own selfS (by exact ⟨rfl, trivial⟩)), ?_⟩ | refine ⟨_, (by rw [add_off]; exact At.own (eqS hw) (by exact ⟨rfl, trivial⟩)), ?_⟩)
  (first | with_reducible refine Br.d (fun h => ?_) (fun h => ?_) | with_reducible refine Br.nd (fun h => ?_) (fun h => ?_) | with_reducible refine Br.e (fun h => ?_) (fun h => ?_) | with_reducible refine Br.ne (fun h => ?_) (fun h => ?_) | with_reducible refine Br.nne (fun h => ?_) (fun h => ?_) | with_reducible refine Br.se (fun h => ?_) (fun h => ?_) | with_reducible refine Br.sne (fun h => ?_) (fun h => ?_) | with_reducible refine Br.nb (fun h => ?_) (fun h => ?_) | with_reducible refine Br.mk (fun h => ?_) (fun h => ?_) | refine Br.d (fun h => ?_) (fun h => ?_) | refine Br.nd (fun h => ?_) (fun h => ?_) | refine Br.e (fun h => ?_) (fun h => ?_) | refine Br.ne (fun h => ?_) (fun h => ?_) | refine Br.nne (fun h => ?_) (fun h => ?_) | refine Br.se (fun h => ?_) (fun h => ?_) | refine Br.mk (fun h => ?_) (fun h => ?_))
  · have e : readD st k = ([], 5) := if_pos h
    rw [e]; exact ⟨⟨none, 0, 0⟩, rfl, Own.nil (RO.shut hE hw)⟩
  have hoff := h
  (first | with_reducible refine Br.d (fun h => ?_) (fun h => ?_) | with_reducible refine Br.nd (fun h => ?_) (fun h => ?_) | with_reducible refine Br.e (fun h => ?_) (fun h => ?_) | with_reducible refine Br.ne (fun h => ?_) (fun h => ?_) | with_reducible refine Br.nne (fun h => ?_) (fun h => ?_) | with_reducible refine Br.se (fun h => ?_) (fun h => ?_) | with_reducible refine Br.sne (fun h => ?_) (fun h => ?_) | with_reducible refine Br.nb (fun h => ?_) (fun h => ?_) | with_reducible refine Br.mk (fun h => ?_) (fun h => ?_) | refine Br.d (fun h => ?_) (fun h => ?_) | refine Br.nd (fun h => ?_) (fun h => ?_) | refine Br.e (fun h => ?_) (fun h => ?_) | refine Br.ne (fun h => ?_) (fun h => ?_) | refine Br.nne (fun h => ?_) (fun h => ?_) | refine Br.se (fun h => ?_) (fun h => ?_) | refine Br.mk (fun h => ?_) (fun h => ?_))
  · have e : readD st k = ([], 1) := by unfold readD; rw [if_neg (by simp [hoff]), if_pos (by simp [h])]
    rw [e]; exact ⟨⟨none, 0, 0⟩, rfl, Own.nil (RO.shut hE hw)⟩
  have e : readD st k = match getM k st.fs with | none => ([], 2) | some f => (f.b, 0) := by unfold readD; rw [if_neg (by simp [hoff]), if_neg (by simp [h])]; cases getM k st.fs <;> rfl
  refine (place_spec k hE (by rw [← erR_len, hE]; exact hn) hw).use ?_
  rintro _ w ⟨rfl, hw⟩
  refine ⟨_, rfl, ?_⟩
  cases hg : getM k st.fs with
  | none =>
    rw [placeD_none hg, e, hg]
    exact Br.t (by decide) ⟨⟨none, 0, 0⟩, rfl, Own.nil (RO.shut hE hw)⟩
  | some f =>
    obtain ⟨a, sb, b, rfl, ha, hfs, hp⟩ := find_ref hE hg
    have hft := total_le hg
    rw [hp, e, hg]
    have hlt : a.length < (a ++ (k, sb, f) :: b).length := by simp
    refine Br.f (by simp) (new_rule hw fun b1 w hw => ?_)
    repeat (first | refine NilP.mk rfl ?_ | refine ⟨_, At.own selfS (by exact ⟨rfl, trivial⟩), ?_⟩ | refine ⟨_, At.own (eqS hw) (by exact ⟨rfl, trivial⟩), ?_⟩ | refine ⟨_, (by rw [add_off]; exact At.own selfS (by exact ⟨rfl, trivial⟩)), ?_⟩ | refine ⟨_, (by rw [add_off]; exact At.own (eqS hw) (by exact ⟨rfl, trivial⟩)), ?_⟩)
    have hr : ReadsN 3 s ((a ++ (k, sb, f) :: b).map rowR) (fun w' => w' = w) := OwnN.readsM (rows := (a ++ (k, sb, f) :: b).map rowR) (T := 78) hw (eqS hw)
    refine hr.rngM hlt fun ad hadr el => ?_
    rw [getElem_mid hlt] at el
    refine ⟨_, el.f 1 (by exact ⟨rfl, trivial⟩), ?_⟩
    simp only
    have hw := (Bufs.split (a := a) (b := b) (e := (k, sb, f))).1 (hw.take (BufsAt (a ++ (k, sb, f) :: b)))
    simp only at hw
    obtain ⟨R', hr2, _, hwl, back⟩ := Own.lend hw (by rw [List.length_map]; omega)
    have hsrc : Src Try.prog 1 31 (.slice sb.a sb.len sb.cap) f.b.length (b8 f.b) w := by
      have := srcRo Try.underlying31 hwl hr2 (one_b8 f.b)
      simpa using this
    refine append0_rule elB8 hwl hsrc (by omega) (by omega) fun s2 w hw => ⟨s2, rfl, ?_⟩
    have hw := (back hw).swap
    exact hw.cons fun _ h => RO.shut (s := s) hE ((Bufs.split (a := a) (b := b) (e := (k, sb, f))).2 h).arr

def renameGR (k to : ByteArray) (st : DS) : DS × Int :=
  match getM k st.fs with
  | some f => if k = to then (st, 0) else ({ st with fs := insM (to, f) (delM to (delM k st.fs)) }, 0)
  | none => (st, 2)
def renameR (st : DS) (k to : ByteArray) : DS × Int := doing st (nameOk k && nameOk to) (renameGR k to)

theorem renameR_spec {r : Nat} {st : DS} {k to : ByteArray} (i : Inv st) (hn : st.fs.length ≤ 1000000) (hk : k.size ≤ 9000000000000000000) (hk2 : to.size ≤ 9000000000000000000) (hw : Sat R (RefAt r st :: Hs) w) :
    Gets Try.prog 34 #[.pointer (some ⟨r, 0, none⟩), .string k, .string to] w fun v w' => v = .int .i64 (renameR st k to).2 ∧ Sat R (RefAt r (renameR st k to).1 :: Hs) w' := by
  apply call34
  refine (changeR_spec i.toCounts hk hk2 hw).use ?_
  rintro _ w ⟨rfl, hw⟩
  refine ⟨_, rfl, ?_⟩
  (first | with_reducible refine Br.d (fun h => ?_) (fun h => ?_) | with_reducible refine Br.nd (fun h => ?_) (fun h => ?_) | with_reducible refine Br.e (fun h => ?_) (fun h => ?_) | with_reducible refine Br.ne (fun h => ?_) (fun h => ?_) | with_reducible refine Br.nne (fun h => ?_) (fun h => ?_) | with_reducible refine Br.se (fun h => ?_) (fun h => ?_) | with_reducible refine Br.sne (fun h => ?_) (fun h => ?_) | with_reducible refine Br.nb (fun h => ?_) (fun h => ?_) | with_reducible refine Br.mk (fun h => ?_) (fun h => ?_) | refine Br.d (fun h => ?_) (fun h => ?_) | refine Br.nd (fun h => ?_) (fun h => ?_) | refine Br.e (fun h => ?_) (fun h => ?_) | refine Br.ne (fun h => ?_) (fun h => ?_) | refine Br.nne (fun h => ?_) (fun h => ?_) | refine Br.se (fun h => ?_) (fun h => ?_) | refine Br.mk (fun h => ?_) (fun h => ?_))
  · have e : renameR st k to = chg st (nameOk k && nameOk to) := if_neg h
    rw [e]; exact ⟨rfl, hw⟩
  have e : renameR st k to = renameGR k to (chg st (nameOk k && nameOk to)).1 := if_pos h
  rw [e]
  have hn2 : (chg st (nameOk k && nameOk to)).1.fs.length ≤ 1000000 := by rw [(chg_fs st _).1]; exact hn
  generalize (chg st (nameOk k && nameOk to)).1 = st2 at *
  clear e i hn
  obtain ⟨s, E, hE, hw⟩ := Sat.ref.1 hw
  refine (place_spec k hE (by rw [← erR_len, hE]; exact hn2) hw).use ?_
  rintro _ w ⟨rfl, hw⟩
  refine ⟨_, rfl, ?_⟩
  cases hg : getM k st2.fs with
  | none =>
    rw [placeD_none hg]
    have e : renameGR k to st2 = (st2, 2) := by unfold renameGR; rw [hg]
    rw [e]
    exact Br.t (by decide) ⟨rfl, RO.shut hE hw⟩
  | some f =>
    obtain ⟨a, sb, b, rfl, ha, hfs, hp⟩ := find_ref hE hg
    rw [hp]
    refine Br.f (by simp) ?_
    (first | with_reducible refine Br.d (fun h => ?_) (fun h => ?_) | with_reducible refine Br.nd (fun h => ?_) (fun h => ?_) | with_reducible refine Br.e (fun h => ?_) (fun h => ?_) | with_reducible refine Br.ne (fun h => ?_) (fun h => ?_) | with_reducible refine Br.nne (fun h => ?_) (fun h => ?_) | with_reducible refine Br.se (fun h => ?_) (fun h => ?_) | with_reducible refine Br.sne (fun h => ?_) (fun h => ?_) | with_reducible refine Br.nb (fun h => ?_) (fun h => ?_) | with_reducible refine Br.mk (fun h => ?_) (fun h => ?_) | refine Br.d (fun h => ?_) (fun h => ?_) | refine Br.nd (fun h => ?_) (fun h => ?_) | refine Br.e (fun h => ?_) (fun h => ?_) | refine Br.ne (fun h => ?_) (fun h => ?_) | refine Br.nne (fun h => ?_) (fun h => ?_) | refine Br.se (fun h => ?_) (fun h => ?_) | refine Br.mk (fun h => ?_) (fun h => ?_))
    · have e : renameGR k to st2 = (st2, 0) := by unfold renameGR; rw [hg]; exact if_pos h
      rw [e]; exact ⟨rfl, RO.shut hE hw⟩
    have e : renameGR k to st2 = ({ st2 with fs := insM (to, f) (delM to (delM k st2.fs)) }, 0) := by unfold renameGR; rw [hg]; exact if_neg h
    rw [e]
    have hlt : a.length < (a ++ (k, sb, f) :: b).length := by simp
    have hll : (a ++ b).length ≤ 1000000 := by have : (a ++ (k, sb, f) :: b).length ≤ 1000000 := by { rw [← erR_len, hE]; exact hn2 }; simp at this ⊢; omega
    repeat (first | refine NilP.mk rfl ?_ | refine ⟨_, At.own selfS (by exact ⟨rfl, trivial⟩), ?_⟩ | refine ⟨_, At.own (eqS hw) (by exact ⟨rfl, trivial⟩), ?_⟩ | refine ⟨_, (by rw [add_off]; exact At.own selfS (by exact ⟨rfl, trivial⟩)), ?_⟩ | refine ⟨_, (by rw [add_off]; exact At.own (eqS hw) (by exact ⟨rfl, trivial⟩)), ?_⟩)
    refine (RO.reads hw (eqS hw)).rngM hlt fun ad hadr el => ?_
    rw [getElem_mid hlt] at el
    refine ⟨k, sb, f.sure, el.z (by exact ⟨rfl, rfl, rfl, trivial⟩), new_rule hw fun bf w hw => ?_⟩
    refine store_rule (v := .agg #[.string k, .slice sb.a sb.len sb.cap, .int .i64 f.sure]) hw (by kernel_rfl) rfl (by simp [Value.cells]) fun w hw => ?_
    have hw : Sat R (RO r s (a ++ (k, sb, f) :: b) st2 (pts bf (.cells [.string k, .slice sb.a sb.len sb.cap, .int .i64 f.sure].toArray 78 (0, 0)) :: Hs)) w := by
      have hw : Sat R (pts bf (.cells [.string k, .slice sb.a sb.len sb.cap, .int .i64 f.sure].toArray 78 (0, 0)) :: RO r s (a ++ (k, sb, f) :: b) st2 Hs) w := hw
      exact hw.arr
    refine (outR_spec hE (by rw [← erR_len, hE]; exact hn2) hw).use ?_
    rintro _ w ⟨rfl, hw⟩
    refine ⟨rfl, ?_⟩
    have ed : erR (a ++ b) = delM k st2.fs := by rw [hfs, delM_app ha (ba_rfl k), erR_app]
    rw [ed] at hw
    obtain ⟨s2, E2, hE2, hw⟩ := Sat.ref.1 hw.swap
    simp only at hE2 hw
    have hl2 : E2.length ≤ 1000000 := by rw [← erR_len, hE2, ← ed, erR_len]; exact hll
    refine (place_spec to hE2 hl2 hw).use ?_
    rintro _ w ⟨rfl, hw⟩
    refine ⟨_, rfl, ?_⟩
    simp only
    have fin : ∀ {w} {s : Sl} {E : List RE} {R}, erR E = delM to (delM k st2.fs) → E.length ≤ 1000000 → Sat R (RO r s E { st2 with fs := delM to (delM k st2.fs) } (Own sb 5 (b8 f.b) :: pts bf (.cells [.string to, .slice sb.a sb.len sb.cap, .int .i64 f.sure].toArray 78 (0, 0)) :: Hs)) w →
        ∃ t47 : ByteArray, ∃ t47_1 : Sl, ∃ t47_2 : Int, (At (fun w' => w' = w) ⟨bf, 0, none⟩ [.string t47, .slice t47_1.a t47_1.len t47_1.cap, .int .i64 t47_2]) ∧
          Calls Try.prog 49 #[.pointer (some ⟨r, 0, none⟩), .agg #[.string t47, .slice t47_1.a t47_1.len t47_1.cap, .int .i64 t47_2]] w fun e_5 w_9 =>
          (e_5 = .returned (.tuple #[])) ∧ (True ∧ Sat R (RefAt r { st2 with fs := insM (to, f) (delM to (delM k st2.fs)) } :: Hs) w_9) := fun {w s E R} hE hl hw => by
      refine ⟨to, sb, f.sure, At.own (eqS hw) (by exact ⟨rfl, rfl, rfl, trivial⟩), ?_⟩
      refine (putR_spec (k := to) (f := f) hE hl hw).use ?_
      rintro _ w ⟨rfl, hw⟩
      exact ⟨rfl, trivial, hw.swap.drop⟩
    cases hg2 : getM to (delM k st2.fs) with
    | none =>
      rw [placeD_none hg2]
      refine Br.f (by decide) ?_
      have hw := hw.take (pts bf (.cells [.string k, .slice sb.a sb.len sb.cap, .int .i64 f.sure].toArray 78 (0, 0)))
      refine store_rule hw (by kernel_rfl) rfl (by simp [Value.cells, putL_len]) fun w hw => ?_
      have hw : Sat R (RO r s2 E2 { st2 with fs := delM to (delM k st2.fs) } (Own sb 5 (b8 f.b) :: pts bf (.cells [.string to, .slice sb.a sb.len sb.cap, .int .i64 f.sure].toArray 78 (0, 0)) :: Hs)) w := by
        have hw : Sat R (pts bf (.cells [.string to, .slice sb.a sb.len sb.cap, .int .i64 f.sure].toArray 78 (0, 0)) :: RO r s2 E2 st2 (Own sb 5 (b8 f.b) :: Hs)) w := hw
        exact hw.arr
      exact fin (by rw [hE2, delM_none hg2]) hl2 hw
    | some f2 =>
      obtain ⟨a2, sb2, b2, rfl, ha2, hfs2, hp2⟩ := find_ref hE2 hg2
      rw [hp2]
      refine Br.t (by simp) ?_
      refine (outR_spec hE2 hl2 hw).use ?_
      rintro _ w ⟨rfl, hw⟩
      refine ⟨rfl, ?_⟩
      have ed2 : erR (a2 ++ b2) = delM to (delM k st2.fs) := by rw [hfs2, delM_app ha2 (ba_rfl to), erR_app]
      rw [ed2] at hw
      obtain ⟨s3, E3, hE3, hw⟩ := Sat.ref.1 hw.drop
      simp only at hE3 hw
      have hl3 : E3.length ≤ 1000000 := by rw [← erR_len, hE3, ← ed2, erR_len]; simp at hl2 ⊢; omega
      have hw := hw.take (pts bf (.cells [.string k, .slice sb.a sb.len sb.cap, .int .i64 f.sure].toArray 78 (0, 0)))
      refine store_rule hw (by kernel_rfl) rfl (by simp [Value.cells, putL_len]) fun w hw => ?_
      have hw : Sat R (RO r s3 E3 { st2 with fs := delM to (delM k st2.fs) } (Own sb 5 (b8 f.b) :: pts bf (.cells [.string to, .slice sb.a sb.len sb.cap, .int .i64 f.sure].toArray 78 (0, 0)) :: Hs)) w := by
        have hw : Sat R (pts bf (.cells [.string to, .slice sb.a sb.len sb.cap, .int .i64 f.sure].toArray 78 (0, 0)) :: RO r s3 E3 st2 (Own sb 5 (b8 f.b) :: Hs)) w := hw
        exact hw.arr
      exact fin hE3 hl3 hw

/-! ### Crash -/
def crashP (fs : Fs) (keep : List Int) : Fs := fs.mapIdx fun i e => (e.1, cutF keep[i]? e.2)
def crashR (st : DS) (keep : List Int) : DS := ⟨st.room, crashP st.fs keep, -1, -1, false⟩

theorem crashR_spec {r : Nat} {st : DS} {s : Sl} {keep : List Int} (i : Inv st) (hs : RoI R s keep) (hn : st.fs.length ≤ 1000000) (hw : Sat R (RefAt r st :: Hs) w) :
    Gets Try.prog 40 #[.pointer (some ⟨r, 0, none⟩), .slice s.a s.len s.cap] w fun v w' => v = .tuple #[] ∧ Sat R (RefAt r (crashR st keep) :: Hs) w' := by
  have r1 := i.r1
  have hfull := i.full
  have hsl := hs.len
  have hsb := hs.bound
  apply call40
  obtain ⟨sL, E, hE, hw⟩ := Sat.ref.1 hw
  have hfl : st.fs.length = E.length := by rw [← hE, erR_len]
  refine ⟨fun x w => ∃ a b : List RE, x = (a.length : Nat) ∧ (a ++ b).length = st.fs.length ∧ erR b = st.fs.drop a.length ∧ erR a = (crashP st.fs keep).take a.length ∧ Sat R (RO r sL (a ++ b) st Hs) w,
    fun x _ => st.fs.length - x.toNat, ⟨[], E, rfl, by simp [hfl], by simpa using hE, rfl, hw⟩, ?_⟩
  rintro z _ w ⟨a, b, rfl, hlen, hb, ha, hw⟩
  have hsL := RO.len hw
  rw [List.length_append] at hlen
  repeat (first | refine NilP.mk rfl ?_ | refine ⟨_, At.own selfS (by exact ⟨rfl, trivial⟩), ?_⟩ | refine ⟨_, At.own (eqS hw) (by exact ⟨rfl, trivial⟩), ?_⟩ | refine ⟨_, (by rw [add_off]; exact At.own selfS (by exact ⟨rfl, trivial⟩)), ?_⟩ | refine ⟨_, (by rw [add_off]; exact At.own (eqS hw) (by exact ⟨rfl, trivial⟩)), ?_⟩)
  (first | with_reducible refine Br.d (fun h => ?_) (fun h => ?_) | with_reducible refine Br.nd (fun h => ?_) (fun h => ?_) | with_reducible refine Br.e (fun h => ?_) (fun h => ?_) | with_reducible refine Br.ne (fun h => ?_) (fun h => ?_) | with_reducible refine Br.nne (fun h => ?_) (fun h => ?_) | with_reducible refine Br.se (fun h => ?_) (fun h => ?_) | with_reducible refine Br.sne (fun h => ?_) (fun h => ?_) | with_reducible refine Br.nb (fun h => ?_) (fun h => ?_) | with_reducible refine Br.mk (fun h => ?_) (fun h => ?_) | refine Br.d (fun h => ?_) (fun h => ?_) | refine Br.nd (fun h => ?_) (fun h => ?_) | refine Br.e (fun h => ?_) (fun h => ?_) | refine Br.ne (fun h => ?_) (fun h => ?_) | refine Br.nne (fun h => ?_) (fun h => ?_) | refine Br.se (fun h => ?_) (fun h => ?_) | refine Br.mk (fun h => ?_) (fun h => ?_))
  · cases b with
    | nil => simp at hsL hlen; omega
    | cons e b =>
    obtain ⟨k, sb, f⟩ := e
    simp only [List.length_cons] at hlen
    have hlt : a.length < (a ++ (k, sb, f) :: b).length := by simp
    have hj : a.length < st.fs.length := by omega
    rw [drop_get hj, erR_cons] at hb
    have hb1 : st.fs[a.length] = (k, f) := (List.cons.inj hb).1.symm
    have hb2 := (List.cons.inj hb).2
    have hmem : (k, f) ∈ st.fs := by rw [← hb1]; exact List.getElem_mem _
    have hsf : f.sure ≤ f.b.length := i.sure _ hmem
    have hfl2 : (f.b.length : Int) ≤ total st.fs := by
      obtain ⟨x, y, hxy⟩ := List.append_of_mem hmem
      have := total_one (k := k) (f := f) x y
      have := total_nn (x ++ y)
      rw [hxy]; omega
    have hbl := RO.blen hw
    simp only at hbl
    obtain ⟨hbl1, hbl2⟩ := hbl
    refine ⟨fun n w => n = (stay keep[a.length]? f : Nat) ∧ Sat R (RO r sL (a ++ (k, sb, f) :: b) st Hs) w, ?_, ?_⟩
    · (first | with_reducible refine Br.d (fun h => ?_) (fun h => ?_) | with_reducible refine Br.nd (fun h => ?_) (fun h => ?_) | with_reducible refine Br.e (fun h => ?_) (fun h => ?_) | with_reducible refine Br.ne (fun h => ?_) (fun h => ?_) | with_reducible refine Br.nne (fun h => ?_) (fun h => ?_) | with_reducible refine Br.se (fun h => ?_) (fun h => ?_) | with_reducible refine Br.sne (fun h => ?_) (fun h => ?_) | with_reducible refine Br.nb (fun h => ?_) (fun h => ?_) | with_reducible refine Br.mk (fun h => ?_) (fun h => ?_) | refine Br.d (fun h => ?_) (fun h => ?_) | refine Br.nd (fun h => ?_) (fun h => ?_) | refine Br.e (fun h => ?_) (fun h => ?_) | refine Br.ne (fun h => ?_) (fun h => ?_) | refine Br.nne (fun h => ?_) (fun h => ?_) | refine Br.se (fun h => ?_) (fun h => ?_) | refine Br.mk (fun h => ?_) (fun h => ?_))
      · have hk2 : a.length < keep.length := by omega
        refine drw_rule hw fun w hw => ?_
        have hr : ReadsN 3 sL ((a ++ (k, sb, f) :: b).map rowR) (Sat R (RO r sL (a ++ (k, sb, f) :: b) st Hs)) := RO.reads hw selfS
        refine hs.idx selfS hk2 ?_
        repeat (first | refine NilP.mk rfl ?_ | refine ⟨_, At.own selfS (by exact ⟨rfl, trivial⟩), ?_⟩ | refine ⟨_, At.own (eqS hw) (by exact ⟨rfl, trivial⟩), ?_⟩ | refine ⟨_, (by rw [add_off]; exact At.own selfS (by exact ⟨rfl, trivial⟩)), ?_⟩ | refine ⟨_, (by rw [add_off]; exact At.own (eqS hw) (by exact ⟨rfl, trivial⟩)), ?_⟩)
        refine hr.rngM hlt fun ad hadr el => ?_
        rw [getElem_mid hlt] at el
        refine ⟨_, el.f 1 (by exact ⟨rfl, trivial⟩), ?_⟩
        repeat (first | refine NilP.mk rfl ?_ | refine ⟨_, At.own selfS (by exact ⟨rfl, trivial⟩), ?_⟩ | refine ⟨_, At.own (eqS hw) (by exact ⟨rfl, trivial⟩), ?_⟩ | refine ⟨_, (by rw [add_off]; exact At.own selfS (by exact ⟨rfl, trivial⟩)), ?_⟩ | refine ⟨_, (by rw [add_off]; exact At.own (eqS hw) (by exact ⟨rfl, trivial⟩)), ?_⟩)
        refine hr.rngM hlt fun ad hadr el => ?_
        rw [getElem_mid hlt] at el
        refine ⟨_, el.f 2 (by exact ⟨rfl, trivial⟩), ?_, hw⟩
        simp only
        rw [wrap64 (by omega) (by omega), List.getElem?_eq_getElem hk2]
        simp only [stay]
        generalize keep[a.length] = x
        rw [hbl1]
        split <;> split <;> omega
      · refine ⟨?_, hw⟩
        rw [List.getElem?_eq_none (by omega)]; rfl
    rintro z n w ⟨rfl, hw⟩
    have hst := stay_le keep[a.length]? f hsf
    generalize hnn : stay keep[a.length]? f = n at hst
    have hgt : cutF keep[a.length]? f = ⟨f.b.take (f.sure + n), f.sure + n⟩ := by unfold cutF; rw [hnn]
    refine drw_rule hw fun w hw => ?_
    have hr : ReadsN 3 sL ((a ++ (k, sb, f) :: b).map rowR) (Sat R (RO r sL (a ++ (k, sb, f) :: b) st Hs)) := RO.reads hw selfS
    repeat (first | refine NilP.mk rfl ?_ | refine ⟨_, At.own selfS (by exact ⟨rfl, trivial⟩), ?_⟩ | refine ⟨_, At.own (eqS hw) (by exact ⟨rfl, trivial⟩), ?_⟩ | refine ⟨_, (by rw [add_off]; exact At.own selfS (by exact ⟨rfl, trivial⟩)), ?_⟩ | refine ⟨_, (by rw [add_off]; exact At.own (eqS hw) (by exact ⟨rfl, trivial⟩)), ?_⟩)
    refine hr.rngM hlt fun ad hadr el => ?_
    rw [getElem_mid hlt] at el
    refine ⟨_, el.f 1 (by exact ⟨rfl, trivial⟩), ?_⟩
    repeat (first | refine NilP.mk rfl ?_ | refine ⟨_, At.own selfS (by exact ⟨rfl, trivial⟩), ?_⟩ | refine ⟨_, At.own (eqS hw) (by exact ⟨rfl, trivial⟩), ?_⟩ | refine ⟨_, (by rw [add_off]; exact At.own selfS (by exact ⟨rfl, trivial⟩)), ?_⟩ | refine ⟨_, (by rw [add_off]; exact At.own (eqS hw) (by exact ⟨rfl, trivial⟩)), ?_⟩)
    refine hr.rngM hlt fun ad hadr el => ?_
    rw [getElem_mid hlt] at el
    refine ⟨_, el.f 2 (by exact ⟨rfl, trivial⟩), ?_⟩
    simp only
    rw [wrap64 (by omega) (by omega)]
    refine ⟨by omega, by omega, ?_⟩
    rw [show ((f.sure : Int) + n).toNat = f.sure + n by omega]
    refine hr.rngM hlt fun ad hadr el => ?_
    refine OwnN.storeM (E := a ++ (k, sb, f) :: b) (g := rowR) (T := 78) (v := .slice sb.a (f.sure + n) sb.cap) 1 (k, ⟨sb.a, f.sure + n, sb.cap⟩, f) hw hadr hlt (by kernel_rfl) rfl (by simp [Value.cells]) (by rw [getElem_mid hlt]; rfl) fun w hw => ?_
    rw [set_mid] at hw
    refine drw_rule hw fun w hw => ?_
    have hr : ReadsN 3 sL ((a ++ (k, ⟨sb.a, f.sure + n, sb.cap⟩, f) :: b).map rowR) (Sat R (OwnN 3 sL 78 ((a ++ (k, ⟨sb.a, f.sure + n, sb.cap⟩, f) :: b).map rowR) :: pts r (rCells st sL) :: BufsAt (a ++ (k, sb, f) :: b) :: Hs)) :=
      OwnN.readsM (rows := (a ++ (k, ⟨sb.a, f.sure + n, sb.cap⟩, f) :: b).map rowR) (T := 78) hw selfS
    have hlt : a.length < (a ++ (k, (⟨sb.a, f.sure + n, sb.cap⟩ : Sl), f) :: b).length := by simp
    repeat (first | refine NilP.mk rfl ?_ | refine ⟨_, At.own selfS (by exact ⟨rfl, trivial⟩), ?_⟩ | refine ⟨_, At.own (eqS hw) (by exact ⟨rfl, trivial⟩), ?_⟩ | refine ⟨_, (by rw [add_off]; exact At.own selfS (by exact ⟨rfl, trivial⟩)), ?_⟩ | refine ⟨_, (by rw [add_off]; exact At.own (eqS hw) (by exact ⟨rfl, trivial⟩)), ?_⟩)
    refine hr.rngM hlt fun ad hadr el => ?_
    rw [getElem_mid hlt] at el
    refine ⟨⟨sb.a, f.sure + n, sb.cap⟩, el.f 1 (by exact ⟨rfl, trivial⟩), ?_⟩
    refine hr.rngM hlt fun ad hadr el => ?_
    simp only
    refine OwnN.storeM (E := a ++ (k, ⟨sb.a, f.sure + n, sb.cap⟩, f) :: b) (g := rowR) (T := 78) 2 (k, ⟨sb.a, f.sure + n, sb.cap⟩, cutF keep[a.length]? f) hw hadr hlt (by kernel_rfl) rfl (by simp [Value.cells]) (by rw [getElem_mid hlt, hgt]; rfl) fun w hw => ?_
    rw [set_mid, wrap64 (by omega) (by omega)] at *
    have hw := (Bufs.split (a := a) (b := b) (e := (k, sb, f))).1 (hw.take (BufsAt (a ++ (k, sb, f) :: b)))
    have hw := Own.short hw (n := f.sure + n) (by simpa using hst)
    have hw : Sat R (Own ⟨sb.a, f.sure + n, sb.cap⟩ 5 (b8 (cutF keep[a.length]? f).b) :: BufsAt (a ++ b) :: OwnN 3 sL 78 ((a ++ (k, ⟨sb.a, f.sure + n, sb.cap⟩, cutF keep[a.length]? f) :: b).map rowR) :: pts r (rCells st sL) :: Hs) w := by
      rw [show b8 (cutF keep[a.length]? f).b = (b8 f.b).take (f.sure + n) by rw [hgt]; exact List.map_take]
      exact hw
    have hw := (Bufs.split (a := a) (b := b) (e := (k, ⟨sb.a, f.sure + n, sb.cap⟩, cutF keep[a.length]? f))).2 hw
    have e1 : a ++ (k, (⟨sb.a, f.sure + n, sb.cap⟩ : Sl), cutF keep[a.length]? f) :: b = (a ++ [(k, ⟨sb.a, f.sure + n, sb.cap⟩, cutF keep[a.length]? f)]) ++ b := by simp
    have hwf : Sat R (RO r sL (a ++ (k, ⟨sb.a, f.sure + n, sb.cap⟩, cutF keep[a.length]? f) :: b) st Hs) w := hw.arr
    rw [e1] at hwf
    refine ⟨⟨_, b, ?_, ?_, ?_, ?_, hwf⟩, by omega⟩
    · simp
    · simp; omega
    · simpa using hb2
    · have hlc : a.length < (crashP st.fs keep).length := by simp [crashP]; exact hj
      rw [erR_app, ha]
      have : (a ++ [(k, (⟨sb.a, f.sure + n, sb.cap⟩ : Sl), cutF keep[a.length]? f)]).length = a.length + 1 := by simp
      rw [this, List.take_succ_eq_append_getElem hlc]
      congr 1
      simp [crashP, hb1, erR]
  · have hb0 : b = [] := by
      rw [List.length_append] at hsL
      exact List.length_eq_zero_iff.1 (by omega)
    subst hb0
    repeat (first | refine NilP.mk rfl ?_ | refine ⟨_, At.own selfS (by exact ⟨rfl, trivial⟩), ?_⟩ | refine ⟨_, At.own (eqS hw) (by exact ⟨rfl, trivial⟩), ?_⟩ | refine ⟨_, (by rw [add_off]; exact At.own selfS (by exact ⟨rfl, trivial⟩)), ?_⟩ | refine ⟨_, (by rw [add_off]; exact At.own (eqS hw) (by exact ⟨rfl, trivial⟩)), ?_⟩)
    refine store_rule hw (by kernel_rfl) rfl (by simp [Value.cells, putL_len]) fun w hw => ?_
    repeat (first | refine NilP.mk rfl ?_ | refine ⟨_, At.own selfS (by exact ⟨rfl, trivial⟩), ?_⟩ | refine ⟨_, At.own (eqS hw) (by exact ⟨rfl, trivial⟩), ?_⟩ | refine ⟨_, (by rw [add_off]; exact At.own selfS (by exact ⟨rfl, trivial⟩)), ?_⟩ | refine ⟨_, (by rw [add_off]; exact At.own (eqS hw) (by exact ⟨rfl, trivial⟩)), ?_⟩)
    refine store_rule hw (by kernel_rfl) rfl (by simp [Value.cells, putL_len]) fun w hw => ?_
    repeat (first | refine NilP.mk rfl ?_ | refine ⟨_, At.own selfS (by exact ⟨rfl, trivial⟩), ?_⟩ | refine ⟨_, At.own (eqS hw) (by exact ⟨rfl, trivial⟩), ?_⟩ | refine ⟨_, (by rw [add_off]; exact At.own selfS (by exact ⟨rfl, trivial⟩)), ?_⟩ | refine ⟨_, (by rw [add_off]; exact At.own (eqS hw) (by exact ⟨rfl, trivial⟩)), ?_⟩)
    refine store_rule hw (by kernel_rfl) rfl (by simp [Value.cells, putL_len]) fun w hw => ?_
    refine ⟨rfl, RO.shut (s := sL) (E := a ++ []) ?_ (st := crashR st keep) hw⟩
    rw [List.append_nil, ha]
    show _ = crashP st.fs keep
    rw [List.take_of_length_le]
    simp at hlen
    simp [crashP]; omega

end Go.Proofs.Ytbniilhfbfcegaa
