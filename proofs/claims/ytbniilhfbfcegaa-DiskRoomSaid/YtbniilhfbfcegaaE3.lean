/- The reference's disk: its operations. Condition: bounds on lengths. -/
import Derived.Test.YtbniilhfbfcegaaE2
namespace Go.Proofs.Ytbniilhfbfcegaa
open Go Go.VC

variable {R : Cx} {Hs Rest : List HP} {w : World}

theorem sizeR_spec {r : Nat} {s : Sl} {E : List RE} {st : DS} (hE : erR E = st.fs) (hl : E.length ≤ 1000000) (ht : total st.fs ≤ 16777216) (hw : Sat R (RO r s E st Hs) w) :
    Gets Try.prog 44 #[.pointer (some ⟨r, 0, none⟩)] w fun v w' => v = .int .i64 (total st.fs) ∧ Sat R (RO r s E st Hs) w' := by
  apply call44
  have hsl : s.len = E.length := by have := OwnN.len (hw.take (OwnN 3 s 78 (E.map rowR))); rwa [List.length_map] at this
  refine ⟨fun n i w => ∃ j : Nat, i = j ∧ j ≤ E.length ∧ n + total (st.fs.drop j) = total st.fs ∧ 0 ≤ n ∧ Sat R (RO r s E st Hs) w, fun n i _ => E.length - i.toNat, ⟨0, rfl, Nat.zero_le _, by simp, Int.le_refl 0, hw⟩, ?_⟩
  rintro z n _ w ⟨j, rfl, hj, hn, h0, hw⟩
  repeat (first | refine NilP.mk rfl ?_ | refine ⟨_, At.own selfS (by exact ⟨rfl, trivial⟩), ?_⟩ | refine ⟨_, At.own (eqS hw) (by exact ⟨rfl, trivial⟩), ?_⟩ | refine ⟨_, (by rw [add_off]; exact At.own selfS (by exact ⟨rfl, trivial⟩)), ?_⟩ | refine ⟨_, (by rw [add_off]; exact At.own (eqS hw) (by exact ⟨rfl, trivial⟩)), ?_⟩)
  (first | with_reducible refine Br.d (fun h => ?_) (fun h => ?_) | with_reducible refine Br.nd (fun h => ?_) (fun h => ?_) | with_reducible refine Br.e (fun h => ?_) (fun h => ?_) | with_reducible refine Br.ne (fun h => ?_) (fun h => ?_) | with_reducible refine Br.nne (fun h => ?_) (fun h => ?_) | with_reducible refine Br.se (fun h => ?_) (fun h => ?_) | with_reducible refine Br.sne (fun h => ?_) (fun h => ?_) | with_reducible refine Br.nb (fun h => ?_) (fun h => ?_) | with_reducible refine Br.mk (fun h => ?_) (fun h => ?_) | refine Br.d (fun h => ?_) (fun h => ?_) | refine Br.nd (fun h => ?_) (fun h => ?_) | refine Br.e (fun h => ?_) (fun h => ?_) | refine Br.ne (fun h => ?_) (fun h => ?_) | refine Br.nne (fun h => ?_) (fun h => ?_) | refine Br.se (fun h => ?_) (fun h => ?_) | refine Br.mk (fun h => ?_) (fun h => ?_))
  · have hj' : j < E.length := by omega
    repeat (first | refine NilP.mk rfl ?_ | refine ⟨_, At.own selfS (by exact ⟨rfl, trivial⟩), ?_⟩ | refine ⟨_, At.own (eqS hw) (by exact ⟨rfl, trivial⟩), ?_⟩ | refine ⟨_, (by rw [add_off]; exact At.own selfS (by exact ⟨rfl, trivial⟩)), ?_⟩ | refine ⟨_, (by rw [add_off]; exact At.own (eqS hw) (by exact ⟨rfl, trivial⟩)), ?_⟩)
    refine (RO.reads hw (eqS hw)).rngM hj' fun a ha el => ⟨_, el.f 1 (by exact ⟨rfl, trivial⟩), ?_⟩
    have hfl : st.fs.length = E.length := by rw [← hE, erR_len]
    have hge : st.fs[j]'(by omega) = (E[j].1, E[j].2.2) := by simp [← hE, erR]
    rw [drop_get (by omega), hge, total_cons] at hn
    have hlen : E[j].2.1.len = E[j].2.2.b.length := by
      have h1 := hw.take (BufsAt E)
      have hsplit : E = E.take j ++ E[j] :: E.drop (j + 1) := by rw [← List.drop_eq_getElem_cons, List.take_append_drop]
      rw [hsplit] at h1
      have := Own.len (Bufs.split.1 h1)
      simpa using this
    have hnn := total_nn (st.fs.drop (j + 1))
    simp only at hn
    rw [hlen, wrap64 (by omega) (by omega), wrap64 (by omega) (by omega)]
    exact ⟨⟨j + 1, by omega, by omega, by omega, by omega, hw⟩, by dsimp only; omega⟩
  · have : j = E.length := by omega
    subst this
    rw [List.drop_eq_nil_of_le (by rw [← hE, erR_len]; omega), total_nil] at hn
    exact ⟨by rw [show n = total st.fs by omega], hw⟩

theorem oneAll_str (xs : List ByteArray) : oneAll (xs.map Value.string) = true := by
  unfold oneAll
  rw [List.all_eq_true]
  intro v hv
  obtain ⟨x, _, rfl⟩ := List.mem_map.1 hv
  rfl

theorem namesR_spec {r : Nat} {s : Sl} {E : List RE} {st : DS} (hE : erR E = st.fs) (hl : E.length ≤ 1000000) (hw : Sat R (RO r s E st Hs) w) :
    Gets Try.prog 43 #[.pointer (some ⟨r, 0, none⟩)] w fun v w' => ∃ t : Sl, v = .slice t.a t.len t.cap ∧ Sat R (Own t 9 ((st.fs.map (·.1)).map Value.string) :: RO r s E st Hs) w' := by
  apply call43
  have hsl : s.len = E.length := by have := OwnN.len (hw.take (OwnN 3 s 78 (E.map rowR))); rwa [List.length_map] at this
  have hfl : st.fs.length = E.length := by rw [← hE, erR_len]
  refine ⟨fun t i w => ∃ j : Nat, i = j ∧ j ≤ E.length ∧ Sat R (Own t 9 (((st.fs.take j).map (·.1)).map Value.string) :: RO r s E st Hs) w, fun t i _ => E.length - i.toNat, ⟨0, rfl, Nat.zero_le _, by simpa using Own.nil hw⟩, ?_⟩
  rintro z t _ w ⟨j, rfl, hj, hw⟩
  repeat (first | refine NilP.mk rfl ?_ | refine ⟨_, At.own selfS (by exact ⟨rfl, trivial⟩), ?_⟩ | refine ⟨_, At.own (eqS hw) (by exact ⟨rfl, trivial⟩), ?_⟩ | refine ⟨_, (by rw [add_off]; exact At.own selfS (by exact ⟨rfl, trivial⟩)), ?_⟩ | refine ⟨_, (by rw [add_off]; exact At.own (eqS hw) (by exact ⟨rfl, trivial⟩)), ?_⟩)
  (first | with_reducible refine Br.d (fun h => ?_) (fun h => ?_) | with_reducible refine Br.nd (fun h => ?_) (fun h => ?_) | with_reducible refine Br.e (fun h => ?_) (fun h => ?_) | with_reducible refine Br.ne (fun h => ?_) (fun h => ?_) | with_reducible refine Br.nne (fun h => ?_) (fun h => ?_) | with_reducible refine Br.se (fun h => ?_) (fun h => ?_) | with_reducible refine Br.sne (fun h => ?_) (fun h => ?_) | with_reducible refine Br.nb (fun h => ?_) (fun h => ?_) | with_reducible refine Br.mk (fun h => ?_) (fun h => ?_) | refine Br.d (fun h => ?_) (fun h => ?_) | refine Br.nd (fun h => ?_) (fun h => ?_) | refine Br.e (fun h => ?_) (fun h => ?_) | refine Br.ne (fun h => ?_) (fun h => ?_) | refine Br.nne (fun h => ?_) (fun h => ?_) | refine Br.se (fun h => ?_) (fun h => ?_) | refine Br.mk (fun h => ?_) (fun h => ?_))
  · have hj' : j < E.length := by omega
    repeat (first | refine NilP.mk rfl ?_ | refine ⟨_, At.own selfS (by exact ⟨rfl, trivial⟩), ?_⟩ | refine ⟨_, At.own (eqS hw) (by exact ⟨rfl, trivial⟩), ?_⟩ | refine ⟨_, (by rw [add_off]; exact At.own selfS (by exact ⟨rfl, trivial⟩)), ?_⟩ | refine ⟨_, (by rw [add_off]; exact At.own (eqS hw) (by exact ⟨rfl, trivial⟩)), ?_⟩)
    have hr : ReadsN 3 s (E.map rowR) (fun w' => w' = w) := OwnN.readsM (rows := E.map rowR) (T := 78) hw (eqS hw)
    refine hr.rngM hj' fun a ha el => ⟨_, el.zz (by exact ⟨rfl, trivial⟩), ?_⟩
    have hge : st.fs[j]'(by omega) = (E[j].1, E[j].2.2) := by simp [← hE, erR]
    have hlt : ((st.fs.take j).map (·.1)).length = j := by simp; omega
    refine push_rule (⟨Try.underlying48, ⟨_, Try.underlying48⟩, by kernel_rfl⟩ : El Try.prog 48 48 9 16) hw (oneAll_str _) rfl (by rw [List.length_map, hlt]; omega) (by rw [List.length_map, hlt]; omega) fun t w hw => ?_
    rw [wrap64 (by omega) (by omega)]
    refine ⟨⟨j + 1, by omega, by omega, ?_⟩, by dsimp only; omega⟩
    have e : ((st.fs.take (j + 1)).map (·.1)).map Value.string = ((st.fs.take j).map (·.1)).map Value.string ++ [.string E[j].1] := by
      rw [List.take_succ_eq_append_getElem (by omega), hge]; simp
    rw [e]; exact hw
  · have : j = E.length := by omega
    subst this
    rw [List.take_of_length_le (by omega)] at hw
    exact ⟨t, rfl, hw⟩

/-- A file that is there. -/
theorem find_ref {E : List RE} {fs : Fs} {k : ByteArray} {f : Fl} (hE : erR E = fs) (hf : getM k fs = some f) : ∃ a sb b, E = a ++ (k, sb, f) :: b ∧ getM k (erR a) = none ∧ fs = erR a ++ (k, f) :: erR b ∧ placeD k fs = (a.length : Nat) := by
  have hg : getM k E = none → False := fun h => by
    have : getM k (erR E) = none := by
      refine getM_of_notin ?_
      have := notin_of_getM h
      simpa [erR, Function.comp_def] using this
    rw [hE, hf] at this; cases this
  cases hc : getM k E with
  | none => exact (hg hc).elim
  | some x =>
    obtain ⟨a, b, rfl, ha⟩ := getM_split hc
    have ha2 : getM k (erR a) = none := by
      refine getM_of_notin ?_
      have := notin_of_getM ha
      simpa [erR, Function.comp_def] using this
    have hfs : fs = erR a ++ (k, x.2) :: erR b := by rw [← hE, erR_app, erR_cons]
    rw [hfs, getM_app ha2 (ba_rfl k)] at hf
    cases hf
    exact ⟨a, x.1, b, rfl, ha2, hfs, by rw [hfs, placeD_app ha2, erR_len]⟩

theorem getElem_mid {α : Type} {a b : List α} {e : α} (h : a.length < (a ++ e :: b).length) : (a ++ e :: b)[a.length] = e := by simp
theorem set_mid {α : Type} {a b : List α} {e e' : α} : (a ++ e :: b).set a.length e' = a ++ e' :: b := by simp

/-! ### Append -/
def ensureR (k : ByteArray) (fs : Fs) : Fs := if (getM k fs).isSome then fs else insM (k, ⟨[], 0⟩) fs
def putBR (k : ByteArray) (xs : List Int) (fs : Fs) : Fs := updM k (fun f => { f with b := f.b ++ xs }) (ensureR k fs)
def appendGR (st : DS) (k : ByteArray) (xs : List Int) : DS × Int := if total st.fs + xs.length > st.room then (st, 3) else ({ st with fs := putBR k xs st.fs }, 0)
def appendR (st : DS) (k : ByteArray) (xs : List Int) : DS × Int := doing st (nameOk k) fun st => appendGR st k xs

theorem ensureR_some (k : ByteArray) (fs : Fs) : (getM k (ensureR k fs)).isSome = true := by
  unfold ensureR
  by_cases h : (getM k fs).isSome = true
  · rw [if_pos h]; exact h
  · rw [if_neg h]
    refine isSome_of_mem ?_
    exact ((insM_perm (k, (⟨[], 0⟩ : Fl)) fs).map (·.1)).mem_iff.2 (List.mem_map_of_mem (f := Prod.fst) List.mem_cons_self)

theorem total_perm {a b : Fs} (h : a.Perm b) : total a = total b := by
  induction h with
  | nil => rfl
  | cons x _ ih => rw [total_cons, total_cons, ih]
  | swap x y l => rw [total_cons, total_cons, total_cons, total_cons]; omega
  | trans _ _ h1 h2 => rw [h1, h2]

theorem ensureR_total (k : ByteArray) (fs : Fs) : total (ensureR k fs) = total fs := by
  unfold ensureR
  split
  · rfl
  · rw [total_perm (insM_perm _ fs), total_cons]; simp
theorem ensureR_len (k : ByteArray) (fs : Fs) : (ensureR k fs).length ≤ fs.length + 1 := by
  unfold ensureR
  split
  · omega
  · rw [(insM_perm (k, (⟨[], 0⟩ : Fl)) fs).length_eq]; simp

theorem appendR_spec {r : Nat} {st : DS} {k : ByteArray} {x : Sl} {xs : List Int} (i : Inv st) (hn : st.fs.length ≤ 100000) (hk : k.size ≤ 9000000000000000000) (hx : Ro R x (b8 xs)) (hxl : xs.length ≤ 1099511627776) (hw : Sat R (RefAt r st :: Hs) w) :
    Gets Try.prog 31 #[.pointer (some ⟨r, 0, none⟩), .string k, .slice x.a x.len x.cap] w fun v w' => v = .int .i64 (appendR st k xs).2 ∧ Sat R (RefAt r (appendR st k xs).1 :: Hs) w' := by
  have hxlen : x.len = xs.length := by have := hx.len; simpa using this
  apply call31
  refine (changeR_spec i.toCounts hk hk hw).use ?_
  rw [Bool.and_self]
  rintro _ w ⟨rfl, hw⟩
  refine ⟨_, rfl, ?_⟩
  (first | with_reducible refine Br.d (fun h => ?_) (fun h => ?_) | with_reducible refine Br.nd (fun h => ?_) (fun h => ?_) | with_reducible refine Br.e (fun h => ?_) (fun h => ?_) | with_reducible refine Br.ne (fun h => ?_) (fun h => ?_) | with_reducible refine Br.nne (fun h => ?_) (fun h => ?_) | with_reducible refine Br.se (fun h => ?_) (fun h => ?_) | with_reducible refine Br.sne (fun h => ?_) (fun h => ?_) | with_reducible refine Br.nb (fun h => ?_) (fun h => ?_) | with_reducible refine Br.mk (fun h => ?_) (fun h => ?_) | refine Br.d (fun h => ?_) (fun h => ?_) | refine Br.nd (fun h => ?_) (fun h => ?_) | refine Br.e (fun h => ?_) (fun h => ?_) | refine Br.ne (fun h => ?_) (fun h => ?_) | refine Br.nne (fun h => ?_) (fun h => ?_) | refine Br.se (fun h => ?_) (fun h => ?_) | refine Br.mk (fun h => ?_) (fun h => ?_))
  · have e : appendR st k xs = chg st (nameOk k) := if_neg h
    rw [e]; exact ⟨rfl, hw⟩
  have e : appendR st k xs = appendGR (chg st (nameOk k)).1 k xs := if_pos h
  rw [e]
  have i2 := chg_inv i (nameOk k)
  have hn2 : (chg st (nameOk k)).1.fs.length ≤ 100000 := by rw [(chg_fs st (nameOk k)).1]; exact hn
  generalize (chg st (nameOk k)).1 = st2 at *
  clear e i hn
  obtain ⟨s, E, hE, hw⟩ := Sat.ref.1 hw
  have r1 := i2.r1; have r0 := i2.r0; have hfull := i2.full
  have hfl : st2.fs.length = E.length := by rw [← hE, erR_len]
  have hnn := total_nn st2.fs
  refine drw_rule hw fun w hw => ?_
  repeat (first | refine NilP.mk rfl ?_ | refine ⟨_, At.own selfS (by exact ⟨rfl, trivial⟩), ?_⟩ | refine ⟨_, At.own (eqS hw) (by exact ⟨rfl, trivial⟩), ?_⟩ | refine ⟨_, (by rw [add_off]; exact At.own selfS (by exact ⟨rfl, trivial⟩)), ?_⟩ | refine ⟨_, (by rw [add_off]; exact At.own (eqS hw) (by exact ⟨rfl, trivial⟩)), ?_⟩)
  refine (sizeR_spec hE (by omega) (by omega) hw).use ?_
  rintro _ w ⟨rfl, hw⟩
  refine ⟨_, rfl, hw, ?_⟩
  rw [wrap64 (by omega) (by omega)]
  (first | with_reducible refine Br.d (fun h => ?_) (fun h => ?_) | with_reducible refine Br.nd (fun h => ?_) (fun h => ?_) | with_reducible refine Br.e (fun h => ?_) (fun h => ?_) | with_reducible refine Br.ne (fun h => ?_) (fun h => ?_) | with_reducible refine Br.nne (fun h => ?_) (fun h => ?_) | with_reducible refine Br.se (fun h => ?_) (fun h => ?_) | with_reducible refine Br.sne (fun h => ?_) (fun h => ?_) | with_reducible refine Br.nb (fun h => ?_) (fun h => ?_) | with_reducible refine Br.mk (fun h => ?_) (fun h => ?_) | refine Br.d (fun h => ?_) (fun h => ?_) | refine Br.nd (fun h => ?_) (fun h => ?_) | refine Br.e (fun h => ?_) (fun h => ?_) | refine Br.ne (fun h => ?_) (fun h => ?_) | refine Br.nne (fun h => ?_) (fun h => ?_) | refine Br.se (fun h => ?_) (fun h => ?_) | refine Br.mk (fun h => ?_) (fun h => ?_))
  · have e : appendGR st2 k xs = (st2, 3) := if_pos (by omega)
    rw [e]; exact ⟨rfl, RO.shut hE hw⟩
  have e : appendGR st2 k xs = ({ st2 with fs := putBR k xs st2.fs }, 0) := if_neg (by omega)
  rw [e]
  refine ⟨fun w => ∃ s E, erR E = ensureR k st2.fs ∧ Sat R (RO r s E { st2 with fs := ensureR k st2.fs } Hs) w, ?_, ?_⟩
  · refine (place_spec k hE (by omega) hw).use ?_
    rintro _ w ⟨rfl, hw⟩
    refine ⟨_, rfl, ?_⟩
    cases hg : getM k st2.fs with
    | none =>
      rw [placeD_none hg]
      refine Br.t (by decide) ?_
      have e2 : ensureR k st2.fs = insM (k, ⟨[], 0⟩) st2.fs := by unfold ensureR; rw [hg]; rfl
      rw [e2]
      have hw := (Own.nil (T := 5) hw).arr (Hs' := RO r s E st2 (Own ⟨none, 0, 0⟩ 5 [] :: Hs))
      refine (putR_spec (sb := ⟨none, 0, 0⟩) (f := ⟨[], 0⟩) (k := k) hE (by omega) hw).use ?_
      rintro _ w ⟨rfl, hw⟩
      obtain ⟨s, E, hE, hw⟩ := Sat.ref.1 hw
      exact ⟨rfl, s, E, hE, hw⟩
    | some f =>
      obtain ⟨a, sb, b, _, _, _, hp⟩ := find_ref hE hg
      rw [hp]
      refine Br.f (by simp) ?_
      have e2 : ensureR k st2.fs = st2.fs := by unfold ensureR; rw [hg]; rfl
      rw [e2]
      exact ⟨s, E, hE, hw⟩
  clear hw hE hfl
  rintro z w ⟨s, E, hE, hw⟩
  have hfl : E.length ≤ 100001 := by have := ensureR_len k st2.fs; rw [← hE, erR_len] at this; omega
  refine (place_spec k hE (by omega) hw).use ?_
  rintro _ w ⟨rfl, hw⟩
  refine ⟨_, rfl, ?_⟩
  obtain ⟨f, hf⟩ := Option.isSome_iff_exists.1 (ensureR_some k st2.fs)
  have hft : (f.b.length : Int) ≤ total st2.fs := by rw [← ensureR_total k]; exact total_le hf
  obtain ⟨a, sb, b, rfl, ha, hfs, hp⟩ := find_ref hE hf
  rw [show placeD k (DS.mk st2.room (ensureR k st2.fs) st2.fail st2.arm st2.off).fs = (a.length : Nat) from hp]
  have hlt : a.length < (a ++ (k, sb, f) :: b).length := by simp
  have hsl : s.len = (a ++ (k, sb, f) :: b).length := by have := OwnN.len (hw.take (OwnN 3 s 78 ((a ++ (k, sb, f) :: b).map rowR))); rwa [List.length_map] at this
  refine drw_ruleT hw fun w hw => ?_
  repeat (first | refine NilP.mk rfl ?_ | refine ⟨_, At.own selfS (by exact ⟨rfl, trivial⟩), ?_⟩ | refine ⟨_, At.own (eqS hw) (by exact ⟨rfl, trivial⟩), ?_⟩ | refine ⟨_, (by rw [add_off]; exact At.own selfS (by exact ⟨rfl, trivial⟩)), ?_⟩ | refine ⟨_, (by rw [add_off]; exact At.own (eqS hw) (by exact ⟨rfl, trivial⟩)), ?_⟩)
  have hr : ReadsN 3 s ((a ++ (k, sb, f) :: b).map rowR) (Sat R (tru :: RO r s (a ++ (k, sb, f) :: b) { st2 with fs := ensureR k st2.fs } Hs)) := OwnN.readsM (rows := (a ++ (k, sb, f) :: b).map rowR) (T := 78) hw selfS
  refine hr.rngM hlt fun ad hadr el => ?_
  rw [getElem_mid hlt] at el
  refine ⟨_, el.f 1 (by exact ⟨rfl, trivial⟩), new_rule hw fun b1 w hw => ⟨hw.absorb, ?_⟩⟩
  simp only
  have hw := Bufs.split.1 (hw.take (BufsAt (a ++ (k, sb, f) :: b)))
  simp only at hw
  obtain ⟨R', hr2, _, hwl, back⟩ := Own.lend hw (by rw [List.length_map]; omega)
  have hsrc : Src Try.prog 1 31 (.slice sb.a sb.len sb.cap) f.b.length (b8 f.b) w := by
    have := srcRo Try.underlying31 hwl hr2 (one_b8 f.b)
    simpa using this
  refine append0_rule elB8 hwl hsrc (by omega) (by omega) fun s2 w hw => ?_
  have hw := back hw
  have toS : ∀ {w} {xs : List Value} {s2 : Sl}, Sat R (Own sb 5 (b8 f.b) :: Own s2 5 xs :: BufsAt (a ++ b) :: tru :: pts r (rCells { st2 with fs := ensureR k st2.fs } s) :: OwnN 3 s 78 ((a ++ (k, sb, f) :: b).map rowR) :: Hs) w → Sat R (tru :: RO r s (a ++ (k, sb, f) :: b) { st2 with fs := ensureR k st2.fs } Hs) w := fun {w xs s2} h => by
    have h := h.swap.drop
    have h := (Bufs.split (a := a) (b := b) (e := (k, sb, f))).2 h
    exact h.arr
  refine ⟨toS hw, ?_⟩
  have hsrc2 : Src Try.prog 1 31 (.slice x.a x.len x.cap) xs.length (b8 xs) w := by
    have := srcRo Try.underlying31 hw hx (one_b8 xs)
    simpa using this
  refine append_rule elB8 hw.swap hsrc2 (one_b8 _) (by simp; omega) (by simp; omega) fun s3 w hw => ?_
  refine ⟨toS hw.swap, ?_⟩
  refine (hr.rngM hlt fun ad hadr el => ?_)
  refine OwnN.storeM (E := a ++ (k, sb, f) :: b) (g := rowR) (T := 78) 1 (k, s3, { f with b := f.b ++ xs }) hw hadr hlt (by kernel_rfl) rfl (by simp [Value.cells]) (by rw [getElem_mid hlt]; rfl) fun w hw => ⟨trivial, ?_⟩
  rw [set_mid] at hw
  refine RO.shut (s := s) (E := a ++ (k, s3, { f with b := f.b ++ xs }) :: b) ?_ ?_
  · show _ = putBR k xs st2.fs
    unfold putBR
    rw [hfs, updM_app ha, erR_app, erR_cons]
  · have hw : Sat R (Own sb 5 (b8 f.b) :: tru :: Own s3 5 (b8 (f.b ++ xs)) :: BufsAt (a ++ b) :: pts r (rCells { st2 with fs := putBR k xs st2.fs } s) :: OwnN 3 s 78 ((a ++ (k, s3, { f with b := f.b ++ xs }) :: b).map rowR) :: Hs) w := by
      rw [show b8 (f.b ++ xs) = b8 f.b ++ b8 xs by simp]
      exact hw.arr
    have hw := (Bufs.split (a := a) (b := b) (e := (k, s3, { f with b := f.b ++ xs }))).2 hw.drop.drop
    exact hw.arr

end Go.Proofs.Ytbniilhfbfcegaa
