/- The reference's disk: its memory, its small operations. Condition: none. -/
import Derived.Test.YtbniilhfbfcegaaD11
import Derived.Test.YtbniilhfbfcegaaSl10
namespace Go.Proofs.Ytbniilhfbfcegaa
open Go Go.VC

variable {R : Cx} {Hs Rest : List HP} {w : World}

/-- Name, the slice of its bytes, file. -/
abbrev RE := ByteArray × Sl × Fl
def erR (E : List RE) : Fs := E.map fun e => (e.1, e.2.2)
def rowR (e : RE) : List Value := [.string e.1, .slice e.2.1.a e.2.1.len e.2.1.cap, .int .i64 e.2.2.sure]
def BufsAt (E : List RE) : HP := Star (E.map fun e => Own e.2.1 5 (b8 e.2.2.b))
abbrev rCells (st : DS) (s : Sl) : Obj := .cells [.int .i64 st.room, .slice s.a s.len s.cap, .int .i64 st.fail, .int .i64 st.arm, .bool st.off].toArray 56 (0, 0)
/-- Laid open. -/
abbrev RO (r : Nat) (s : Sl) (E : List RE) (st : DS) (Hs : List HP) : List HP := pts r (rCells st s) :: OwnN 3 s 78 (E.map rowR) :: BufsAt E :: Hs
def RefAt (r : Nat) (st : DS) : HP := exs fun x : Sl × List RE => Star [pur (erR x.2 = st.fs), pts r (rCells st x.1), OwnN 3 x.1 78 (x.2.map rowR), BufsAt x.2]

theorem Sat.ref {r : Nat} {st : DS} : Sat R (RefAt r st :: Hs) w ↔ ∃ s E, erR E = st.fs ∧ Sat R (RO r s E st Hs) w := by
  unfold RefAt
  rw [Sat.exs]
  constructor
  · rintro ⟨⟨s, E⟩, h⟩
    have := Sat.star.1 h
    exact ⟨s, E, Sat.pur.1 this⟩
  · rintro ⟨s, E, h1, h2⟩
    exact ⟨⟨s, E⟩, Sat.star.2 (Sat.pur.2 ⟨h1, h2⟩)⟩

theorem Bufs.split {a b : List RE} {e : RE} : Sat R (BufsAt (a ++ e :: b) :: Hs) w ↔ Sat R (Own e.2.1 5 (b8 e.2.2.b) :: BufsAt (a ++ b) :: Hs) w := by
  have p : ((a ++ e :: b).map fun e : RE => Own e.2.1 5 (b8 e.2.2.b)).Perm (Own e.2.1 5 (b8 e.2.2.b) :: (a ++ b).map fun e : RE => Own e.2.1 5 (b8 e.2.2.b)) := by
    rw [List.map_append, List.map_cons, List.map_append]; exact List.perm_middle
  unfold BufsAt
  constructor
  · intro h
    exact ((Sat.star.1 h).perm (p.append_right Hs)).cons fun _ h => Sat.star.2 h
  · intro h
    have h1 : Sat R ((Own e.2.1 5 (b8 e.2.2.b) :: (a ++ b).map fun e : RE => Own e.2.1 5 (b8 e.2.2.b)) ++ Hs) w := h.cons fun _ h => Sat.star.1 h
    exact Sat.star.2 (h1.perm (p.symm.append_right Hs))
theorem Bufs.nil : Sat R (BufsAt [] :: Hs) w ↔ Sat R Hs w := Sat.star

theorem RO.reads {r : Nat} {s : Sl} {E : List RE} {st : DS} {S : World → Prop} (hw : Sat R (RO r s E st Hs) w) (hS : ∀ w, S w → Sat R (RO r s E st Hs) w) : ReadsN 3 s (E.map rowR) S :=
  OwnN.readsM (rows := E.map rowR) (T := 78) hw hS
theorem RO.shut {r : Nat} {s : Sl} {E : List RE} {st : DS} (hE : erR E = st.fs) (h : Sat R (RO r s E st Hs) w) : Sat R (RefAt r st :: Hs) w := Sat.ref.2 ⟨s, E, hE, h⟩

/-! ### New -/
theorem newR_spec (room : Int) (hw : Sat R Hs w) : Gets Try.prog 11 #[.int .i64 room] w fun v w' =>
    (newErr room = 1 ∧ v = .tuple #[.pointer none, .int .i64 1] ∧ Sat R Hs w') ∨
    (newErr room = 0 ∧ 1 ≤ room ∧ room ≤ 16777216 ∧ ∃ d, v = .tuple #[.pointer (some ⟨d, 0, none⟩), .int .i64 0] ∧ Sat R (RefAt d ⟨room, [], -1, -1, false⟩ :: Hs) w') := by
  apply call11
  refine Br.mk (fun h => ?_) (fun h => Br.mk (fun h2 => ?_) (fun h2 => ?_)) <;> simp only [decide_eq_true_eq, decide_eq_false_iff_not] at h
  · exact .inl ⟨if_pos (.inl h), rfl, hw⟩
  · simp only [decide_eq_true_eq] at h2
    exact .inl ⟨if_pos (.inr h2), rfl, hw⟩
  · simp only [decide_eq_false_iff_not] at h2
    refine new_rule hw fun d w hw => .inr ⟨if_neg (by omega), by omega, by omega, d, rfl, ?_⟩
    exact RO.shut (s := ⟨none, 0, 0⟩) (E := []) rfl (hw.cons fun _ h => OwnN.nil (Bufs.nil.2 h))

/-! ### IsName -/
theorem okCh_iff (c : Int) : okCh c = true ↔ (97 ≤ c ∧ c ≤ 122) ∨ (48 ≤ c ∧ c ≤ 57) ∨ c = 46 ∨ c = 45 := by
  unfold okCh; simp [or_assoc]

theorem isName_spec (s : ByteArray) (hb : s.size ≤ 9000000000000000000) (hw : Sat R Hs w) : Gets Try.prog 54 #[.string s] w fun r w' => r = .bool (nameOk s) ∧ Sat R Hs w' := by
  apply call54
  have hbl := bytesL_len s
  refine ⟨fun i w => ∃ k : Nat, i = k ∧ k ≤ s.size ∧ (bytesL s).all okCh = ((bytesL s).drop k).all okCh ∧ Sat R Hs w, fun i _ => s.size - i.toNat, ⟨0, rfl, Nat.zero_le _, rfl, hw⟩, ?_⟩
  rintro z _ w ⟨k, rfl, hk, he, hw⟩
  (first | with_reducible refine Br.d (fun h => ?_) (fun h => ?_) | with_reducible refine Br.nd (fun h => ?_) (fun h => ?_) | with_reducible refine Br.e (fun h => ?_) (fun h => ?_) | with_reducible refine Br.ne (fun h => ?_) (fun h => ?_) | with_reducible refine Br.nne (fun h => ?_) (fun h => ?_) | with_reducible refine Br.se (fun h => ?_) (fun h => ?_) | with_reducible refine Br.sne (fun h => ?_) (fun h => ?_) | with_reducible refine Br.nb (fun h => ?_) (fun h => ?_) | with_reducible refine Br.mk (fun h => ?_) (fun h => ?_) | refine Br.d (fun h => ?_) (fun h => ?_) | refine Br.nd (fun h => ?_) (fun h => ?_) | refine Br.e (fun h => ?_) (fun h => ?_) | refine Br.ne (fun h => ?_) (fun h => ?_) | refine Br.nne (fun h => ?_) (fun h => ?_) | refine Br.se (fun h => ?_) (fun h => ?_) | refine Br.mk (fun h => ?_) (fun h => ?_))
  · have hk' : k < (bytesL s).length := by omega
    have hkd : k < s.data.size := by have : s.size = s.data.size := rfl; omega
    rw [drop_get hk', List.all_cons] at he
    have hg : (bytesL s)[k] = ((s.data[k]).toNat : Int) := by simp [bytesL]
    rw [hg] at he
    refine ⟨s.data[k], by omega, ?_, ?_⟩
    · rw [Int.toNat_natCast]
      show s.data[k]? = _
      exact Array.getElem?_eq_getElem hkd
    generalize ((s.data[k]).toNat : Int) = c at he
    rw [wrap64 (by omega) (by omega)]
    have yes : ((97 ≤ c ∧ c ≤ 122) ∨ (48 ≤ c ∧ c ≤ 57) ∨ c = 46 ∨ c = 45) → (∃ k' : Nat, (k : Int) + 1 = k' ∧ k' ≤ s.size ∧ (bytesL s).all okCh = ((bytesL s).drop k').all okCh ∧ Sat R Hs w) ∧ s.size - ((k : Int) + 1).toNat < s.size - (k : Int).toNat := fun hc => by
      rw [(okCh_iff c).2 hc, Bool.true_and] at he
      exact ⟨⟨k + 1, by omega, by omega, he, hw⟩, by omega⟩
    have no : ¬ ((97 ≤ c ∧ c ≤ 122) ∨ (48 ≤ c ∧ c ≤ 57) ∨ c = 46 ∨ c = 45) → Value.bool false = .bool (nameOk s) ∧ Sat R Hs w := fun hc => by
      have : okCh c = false := by rw [← Bool.not_eq_true, okCh_iff]; exact hc
      rw [this, Bool.false_and] at he
      exact ⟨by rw [nameOk, he]; simp, hw⟩
    clear he
    repeat' (first | with_reducible refine Br.d (fun h => ?_) (fun h => ?_) | with_reducible refine Br.nd (fun h => ?_) (fun h => ?_) | with_reducible refine Br.e (fun h => ?_) (fun h => ?_) | with_reducible refine Br.ne (fun h => ?_) (fun h => ?_) | with_reducible refine Br.nne (fun h => ?_) (fun h => ?_) | with_reducible refine Br.se (fun h => ?_) (fun h => ?_) | with_reducible refine Br.sne (fun h => ?_) (fun h => ?_) | with_reducible refine Br.nb (fun h => ?_) (fun h => ?_) | with_reducible refine Br.mk (fun h => ?_) (fun h => ?_) | refine Br.d (fun h => ?_) (fun h => ?_) | refine Br.nd (fun h => ?_) (fun h => ?_) | refine Br.e (fun h => ?_) (fun h => ?_) | refine Br.ne (fun h => ?_) (fun h => ?_) | refine Br.nne (fun h => ?_) (fun h => ?_) | refine Br.se (fun h => ?_) (fun h => ?_) | refine Br.mk (fun h => ?_) (fun h => ?_))
    all_goals first | exact yes (by omega) | exact no (by omega)
  · have : k = s.size := by omega
    subst this
    rw [List.drop_eq_nil_of_le (by omega)] at he
    have e : nameOk s = (decide (s.size ≠ 0) && decide (s.size ≤ 64)) := by rw [nameOk, he]; simp
    rw [e]
    (first | with_reducible refine Br.d (fun h => ?_) (fun h => ?_) | with_reducible refine Br.nd (fun h => ?_) (fun h => ?_) | with_reducible refine Br.e (fun h => ?_) (fun h => ?_) | with_reducible refine Br.ne (fun h => ?_) (fun h => ?_) | with_reducible refine Br.nne (fun h => ?_) (fun h => ?_) | with_reducible refine Br.se (fun h => ?_) (fun h => ?_) | with_reducible refine Br.sne (fun h => ?_) (fun h => ?_) | with_reducible refine Br.nb (fun h => ?_) (fun h => ?_) | with_reducible refine Br.mk (fun h => ?_) (fun h => ?_) | refine Br.d (fun h => ?_) (fun h => ?_) | refine Br.nd (fun h => ?_) (fun h => ?_) | refine Br.e (fun h => ?_) (fun h => ?_) | refine Br.ne (fun h => ?_) (fun h => ?_) | refine Br.nne (fun h => ?_) (fun h => ?_) | refine Br.se (fun h => ?_) (fun h => ?_) | refine Br.mk (fun h => ?_) (fun h => ?_))
    · refine ⟨?_, hw⟩
      rw [decide_eq_true (p := s.size ≠ 0) (by omega), Bool.true_and, decide_eq_decide.2 (show ((s.size : Int) ≤ 64) ↔ s.size ≤ 64 by omega)]
    · refine ⟨?_, hw⟩
      rw [decide_eq_false (p := s.size ≠ 0) (by omega)]; rfl

/-! ### place -/

/-- Where a key stands first. -/
def posM {β : Type} (k : ByteArray) : List (ByteArray × β) → Option Nat
  | [] => none
  | e :: l => if k == e.1 then some 0 else (posM k l).map (· + 1)

def placeD (k : ByteArray) (fs : Fs) : Int := match posM k fs with | some i => i | none => -1

theorem posM_app {β : Type} {k : ByteArray} {v : β} : ∀ {a b : List (ByteArray × β)}, getM k a = none → posM k (a ++ (k, v) :: b) = some a.length
  | [], b, _ => by simp [posM, ba_rfl]
  | e :: a, b, h => by
    rw [getM] at h
    split at h
    · cases h
    · rename_i hne
      rw [List.cons_append, posM, if_neg hne, posM_app h]; rfl
theorem posM_none {β : Type} {k : ByteArray} : ∀ {l : List (ByteArray × β)}, getM k l = none → posM k l = none
  | [], _ => rfl
  | e :: l, h => by
    rw [getM] at h
    split at h
    · cases h
    · rename_i hne; rw [posM, if_neg hne, posM_none h]; rfl
theorem placeD_app {k : ByteArray} {f : Fl} {a b : Fs} (h : getM k a = none) : placeD k (a ++ (k, f) :: b) = a.length := by unfold placeD; rw [posM_app h]
theorem placeD_none {k : ByteArray} {fs : Fs} (h : getM k fs = none) : placeD k fs = -1 := by unfold placeD; rw [posM_none h]

theorem erR_len (E : List RE) : (erR E).length = E.length := by simp [erR]
theorem erR_app (a b : List RE) : erR (a ++ b) = erR a ++ erR b := by simp [erR]
theorem erR_cons (e : RE) (b : List RE) : erR (e :: b) = (e.1, e.2.2) :: erR b := rfl

theorem place_spec {r : Nat} {s : Sl} {E : List RE} {st : DS} (k : ByteArray) (hE : erR E = st.fs) (hl : E.length ≤ 1000000) (hw : Sat R (RO r s E st Hs) w) :
    Gets Try.prog 48 #[.pointer (some ⟨r, 0, none⟩), .string k] w fun v w' => v = .int .i64 (placeD k st.fs) ∧ Sat R (RO r s E st Hs) w' := by
  apply call48
  have hsl : s.len = E.length := by have := OwnN.len (hw.take (OwnN 3 s 78 (E.map rowR))); rwa [List.length_map] at this
  refine ⟨fun i w => ∃ j : Nat, i = j ∧ j ≤ E.length ∧ getM k (st.fs.take j) = none ∧ Sat R (RO r s E st Hs) w, fun i _ => E.length - i.toNat, ⟨0, rfl, Nat.zero_le _, rfl, hw⟩, ?_⟩
  rintro z _ w ⟨j, rfl, hj, hn, hw⟩
  repeat (first | refine NilP.mk rfl ?_ | refine ⟨_, At.own selfS (by exact ⟨rfl, trivial⟩), ?_⟩ | refine ⟨_, At.own (eqS hw) (by exact ⟨rfl, trivial⟩), ?_⟩ | refine ⟨_, (by rw [add_off]; exact At.own selfS (by exact ⟨rfl, trivial⟩)), ?_⟩ | refine ⟨_, (by rw [add_off]; exact At.own (eqS hw) (by exact ⟨rfl, trivial⟩)), ?_⟩)
  (first | with_reducible refine Br.d (fun h => ?_) (fun h => ?_) | with_reducible refine Br.nd (fun h => ?_) (fun h => ?_) | with_reducible refine Br.e (fun h => ?_) (fun h => ?_) | with_reducible refine Br.ne (fun h => ?_) (fun h => ?_) | with_reducible refine Br.nne (fun h => ?_) (fun h => ?_) | with_reducible refine Br.se (fun h => ?_) (fun h => ?_) | with_reducible refine Br.sne (fun h => ?_) (fun h => ?_) | with_reducible refine Br.nb (fun h => ?_) (fun h => ?_) | with_reducible refine Br.mk (fun h => ?_) (fun h => ?_) | refine Br.d (fun h => ?_) (fun h => ?_) | refine Br.nd (fun h => ?_) (fun h => ?_) | refine Br.e (fun h => ?_) (fun h => ?_) | refine Br.ne (fun h => ?_) (fun h => ?_) | refine Br.nne (fun h => ?_) (fun h => ?_) | refine Br.se (fun h => ?_) (fun h => ?_) | refine Br.mk (fun h => ?_) (fun h => ?_))
  · have hj' : j < E.length := by omega
    repeat (first | refine NilP.mk rfl ?_ | refine ⟨_, At.own selfS (by exact ⟨rfl, trivial⟩), ?_⟩ | refine ⟨_, At.own (eqS hw) (by exact ⟨rfl, trivial⟩), ?_⟩ | refine ⟨_, (by rw [add_off]; exact At.own selfS (by exact ⟨rfl, trivial⟩)), ?_⟩ | refine ⟨_, (by rw [add_off]; exact At.own (eqS hw) (by exact ⟨rfl, trivial⟩)), ?_⟩)
    refine (RO.reads hw (eqS hw)).rngM hj' fun a ha el => ⟨_, el.zz (by exact ⟨rfl, trivial⟩), ?_⟩
    have hge : st.fs[j]'(by rw [← hE, erR_len]; exact hj') = (E[j].1, E[j].2.2) := by simp [← hE, erR]
    have hsplit : st.fs = st.fs.take j ++ (E[j].1, E[j].2.2) :: st.fs.drop (j + 1) := by
      rw [← hge, ← List.drop_eq_getElem_cons, List.take_append_drop]
    have hlen : (st.fs.take j).length = j := by rw [List.length_take, ← hE, erR_len]; omega
    (first | with_reducible refine Br.d (fun h => ?_) (fun h => ?_) | with_reducible refine Br.nd (fun h => ?_) (fun h => ?_) | with_reducible refine Br.e (fun h => ?_) (fun h => ?_) | with_reducible refine Br.ne (fun h => ?_) (fun h => ?_) | with_reducible refine Br.nne (fun h => ?_) (fun h => ?_) | with_reducible refine Br.se (fun h => ?_) (fun h => ?_) | with_reducible refine Br.sne (fun h => ?_) (fun h => ?_) | with_reducible refine Br.nb (fun h => ?_) (fun h => ?_) | with_reducible refine Br.mk (fun h => ?_) (fun h => ?_) | refine Br.d (fun h => ?_) (fun h => ?_) | refine Br.nd (fun h => ?_) (fun h => ?_) | refine Br.e (fun h => ?_) (fun h => ?_) | refine Br.ne (fun h => ?_) (fun h => ?_) | refine Br.nne (fun h => ?_) (fun h => ?_) | refine Br.se (fun h => ?_) (fun h => ?_) | refine Br.mk (fun h => ?_) (fun h => ?_))
    · subst h
      refine ⟨?_, hw⟩
      rw [hsplit, placeD_app hn, hlen]
    · rw [wrap64 (by omega) (by omega)]
      refine ⟨⟨j + 1, by omega, by omega, ?_, hw⟩, by dsimp only; omega⟩
      have : st.fs.take (j + 1) = st.fs.take j ++ [(E[j].1, E[j].2.2)] := by
        rw [← hge, List.take_succ_eq_append_getElem]
      rw [this]
      refine getM_of_notin ?_
      rw [List.map_append, List.mem_append, not_or]
      exact ⟨notin_of_getM hn, by simp; exact fun h2 => h h2.symm⟩
  · refine ⟨?_, hw⟩
    rw [List.take_of_length_le (by rw [← hE, erR_len]; omega)] at hn
    rw [placeD_none hn]

end Go.Proofs.Ytbniilhfbfcegaa
