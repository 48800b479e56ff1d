/- The reference's disk: its memory, its small operations. Condition: none. -/
import Derived.Test.YtgfneeoponiibaaGreatB5
import Derived.Test.YtgfneeoponiibaaGreatB2
import Derived.Sort.Walk0
import Derived.Laws.StructEq
import Derived.ChangeKeysEq
import Derived.Test.YtgfneeoponiibaaGreatB1
import Derived.ProofKit
import Derived.OpenShut
import Derived.ShutString
import Derived.ChangeOld
import Derived.Below
import Derived.Lib.SmallJoins
namespace Go.Proofs.YtgfneeoponiibaaGreat
open Go Go.VC

variable {R : Cx} {Hs Rest : List HP} {w : World}

/-- Name, the slice of its bytes, file. -/
abbrev RE := ByteArray × Sl × Fl
def erR (E : List RE) : Fs := E.map fun e => (e.1, e.2.2)
def rowR (e : RE) : List Value := [.string e.1, .slice e.2.1.a e.2.1.len e.2.1.cap, .int .i64 e.2.2.sure]
def BufsAt (E : List RE) : HP := Star (E.map fun e => Own e.2.1 5 (b8 e.2.2.b))
abbrev rCells (st : DS) (s : Sl) : Obj := .cells [.int .i64 st.room, .slice s.a s.len s.cap, .int .i64 st.fail, .int .i64 st.arm, .bool st.off].toArray 66 (0, 0)
/-- Laid open. -/
abbrev RO (r : Nat) (s : Sl) (E : List RE) (st : DS) (Hs : List HP) : List HP := pts r (rCells st s) :: OwnN 3 s 104 (E.map rowR) :: BufsAt E :: Hs
def RefAt (r : Nat) (st : DS) : HP := exs fun x : Sl × List RE => Star [pur (erR x.2 = st.fs), pts r (rCells st x.1), OwnN 3 x.1 104 (x.2.map rowR), BufsAt x.2]

theorem Sat.ref {r : Nat} {st : DS} : Sat R (RefAt r st :: Hs) w ↔ ∃ s E, erR E = st.fs ∧ Sat R (RO r s E st Hs) w := by
  unfold RefAt
  rw [Sat.exs]
  constructor
  · rintro ⟨⟨s, E⟩, h⟩
    have := Sat.star.1 h
    exact ⟨s, E, Sat.pur.1 this⟩
  · rintro ⟨s, E, h1, h2⟩
    exact ⟨⟨s, E⟩, Sat.star.2 (Sat.pur.2 ⟨h1, h2⟩)⟩

theorem Bufs.split {a b : List RE} {e : RE} : Sat R (BufsAt (a ++ e :: b) :: Hs) w ↔ Sat R (Own e.2.1 5 (b8 e.2.2.b) :: BufsAt (a ++ b) :: Hs) w := by
  have p : ((a ++ e :: b).map fun e : RE => Own e.2.1 5 (b8 e.2.2.b)).Perm (Own e.2.1 5 (b8 e.2.2.b) :: (a ++ b).map fun e : RE => Own e.2.1 5 (b8 e.2.2.b)) := by
    rw [List.map_append, List.map_cons, List.map_append]; exact List.perm_middle
  unfold BufsAt
  constructor
  · intro h
    exact ((Sat.star.1 h).perm (p.append_right Hs)).cons fun _ h => Sat.star.2 h
  · intro h
    have h1 : Sat R ((Own e.2.1 5 (b8 e.2.2.b) :: (a ++ b).map fun e : RE => Own e.2.1 5 (b8 e.2.2.b)) ++ Hs) w := h.cons fun _ h => Sat.star.1 h
    exact Sat.star.2 (h1.perm (p.symm.append_right Hs))
theorem Bufs.nil : Sat R (BufsAt [] :: Hs) w ↔ Sat R Hs w := Sat.star

theorem RO.reads {r : Nat} {s : Sl} {E : List RE} {st : DS} {S : World → Prop} (hw : Sat R (RO r s E st Hs) w) (hS : ∀ w, S w → Sat R (RO r s E st Hs) w) : ReadsN 3 s (E.map rowR) S :=
  OwnN.readsM (rows := E.map rowR) (T := 104) hw hS
theorem RO.shut {r : Nat} {s : Sl} {E : List RE} {st : DS} (hE : erR E = st.fs) (h : Sat R (RO r s E st Hs) w) : Sat R (RefAt r st :: Hs) w := Sat.ref.2 ⟨s, E, hE, h⟩

/-! ### New -/
theorem newR_spec (room : Int) (hw : Sat R Hs w) : Gets Tryz.prog 23 #[.int .i64 room] w fun v w' =>
    (newErr room = 1 ∧ v = .tuple #[.pointer none, .int .i64 1] ∧ Sat R Hs w') ∨
    (newErr room = 0 ∧ 1 ≤ room ∧ room ≤ 16777216 ∧ ∃ d, v = .tuple #[.pointer (some ⟨d, 0, none⟩), .int .i64 0] ∧ Sat R (RefAt d ⟨room, [], -1, -1, false⟩ :: Hs) w') := by
  apply call23
  refine Br.mk (fun h => ?_) (fun h => Br.mk (fun h2 => ?_) (fun h2 => ?_)) <;> simp only [decide_eq_true_eq, decide_eq_false_iff_not] at h
  · exact .inl ⟨if_pos (.inl h), rfl, hw⟩
  · simp only [decide_eq_true_eq] at h2
    exact .inl ⟨if_pos (.inr h2), rfl, hw⟩
  · simp only [decide_eq_false_iff_not] at h2
    refine new_rule hw fun d w hw => .inr ⟨if_neg (by omega), by omega, by omega, d, rfl, ?_⟩
    exact RO.shut (s := ⟨none, 0, 0⟩) (E := []) rfl (hw.cons fun _ h => OwnN.nil (Bufs.nil.2 h))

/-! ### IsName -/
theorem okCh_iff (c : Int) : okCh c = true ↔ (97 ≤ c ∧ c ≤ 122) ∨ (48 ≤ c ∧ c ≤ 57) ∨ c = 46 ∨ c = 45 := by
  unfold okCh; simp [or_assoc]

theorem isName_spec (s : ByteArray) (hb : s.size ≤ 9223372036854775807) (hw : Sat R Hs w) : Gets Tryz.prog 104 #[.string s] w fun r w' => r = .bool (nameOk s) ∧ Sat R Hs w' := by
  apply call104
  have hbl := bytesL_len s
  refine ⟨fun i w => ∃ k : Nat, i = k ∧ k ≤ s.size ∧ (bytesL s).all okCh = ((bytesL s).drop k).all okCh ∧ Sat R Hs w, fun i _ => s.size - i.toNat, ⟨0, rfl, Nat.zero_le _, rfl, hw⟩, ?_⟩
  rintro z _ w ⟨k, rfl, hk, he, hw⟩
  (first | with_reducible refine Br.d (fun h => ?_) (fun h => ?_) | with_reducible refine Br.nd (fun h => ?_) (fun h => ?_) | with_reducible refine Br.e (fun h => ?_) (fun h => ?_) | with_reducible refine Br.ne (fun h => ?_) (fun h => ?_) | with_reducible refine Br.nne (fun h => ?_) (fun h => ?_) | with_reducible refine Br.se (fun h => ?_) (fun h => ?_) | with_reducible refine Br.sne (fun h => ?_) (fun h => ?_) | with_reducible refine Br.nb (fun h => ?_) (fun h => ?_) | with_reducible refine Br.mk (fun h => ?_) (fun h => ?_) | refine Br.d (fun h => ?_) (fun h => ?_) | refine Br.nd (fun h => ?_) (fun h => ?_) | refine Br.e (fun h => ?_) (fun h => ?_) | refine Br.ne (fun h => ?_) (fun h => ?_) | refine Br.nne (fun h => ?_) (fun h => ?_) | refine Br.se (fun h => ?_) (fun h => ?_) | refine Br.mk (fun h => ?_) (fun h => ?_))
  · have hk' : k < (bytesL s).length := by omega
    have hkd : k < s.data.size := by have : s.size = s.data.size := rfl; omega
    rw [drop_get hk', List.all_cons] at he
    have hg : (bytesL s)[k] = ((s.data[k]).toNat : Int) := by simp [bytesL]
    rw [hg] at he
    refine ⟨s.data[k], by omega, ?_, ?_⟩
    · rw [Int.toNat_natCast]
      show s.data[k]? = _
      exact Array.getElem?_eq_getElem hkd
    generalize ((s.data[k]).toNat : Int) = c at he
    rw [wrap64 (by omega) (by omega)]
    have yes : ((97 ≤ c ∧ c ≤ 122) ∨ (48 ≤ c ∧ c ≤ 57) ∨ c = 46 ∨ c = 45) → (∃ k' : Nat, (k : Int) + 1 = k' ∧ k' ≤ s.size ∧ (bytesL s).all okCh = ((bytesL s).drop k').all okCh ∧ Sat R Hs w) ∧ s.size - ((k : Int) + 1).toNat < s.size - (k : Int).toNat := fun hc => by
      rw [(okCh_iff c).2 hc, Bool.true_and] at he
      exact ⟨⟨k + 1, by omega, by omega, he, hw⟩, by omega⟩
    have no : ¬ ((97 ≤ c ∧ c ≤ 122) ∨ (48 ≤ c ∧ c ≤ 57) ∨ c = 46 ∨ c = 45) → Value.bool false = .bool (nameOk s) ∧ Sat R Hs w := fun hc => by
      have : okCh c = false := by rw [← Bool.not_eq_true, okCh_iff]; exact hc
      rw [this, Bool.false_and] at he
      exact ⟨by rw [nameOk, he]; simp, hw⟩
    clear he
    repeat' (first | with_reducible refine Br.d (fun h => ?_) (fun h => ?_) | with_reducible refine Br.nd (fun h => ?_) (fun h => ?_) | with_reducible refine Br.e (fun h => ?_) (fun h => ?_) | with_reducible refine Br.ne (fun h => ?_) (fun h => ?_) | with_reducible refine Br.nne (fun h => ?_) (fun h => ?_) | with_reducible refine Br.se (fun h => ?_) (fun h => ?_) | with_reducible refine Br.sne (fun h => ?_) (fun h => ?_) | with_reducible refine Br.nb (fun h => ?_) (fun h => ?_) | with_reducible refine Br.mk (fun h => ?_) (fun h => ?_) | refine Br.d (fun h => ?_) (fun h => ?_) | refine Br.nd (fun h => ?_) (fun h => ?_) | refine Br.e (fun h => ?_) (fun h => ?_) | refine Br.ne (fun h => ?_) (fun h => ?_) | refine Br.nne (fun h => ?_) (fun h => ?_) | refine Br.se (fun h => ?_) (fun h => ?_) | refine Br.mk (fun h => ?_) (fun h => ?_))
    all_goals first | exact yes (by omega) | exact no (by omega)
  · have : k = s.size := by omega
    subst this
    rw [List.drop_eq_nil_of_le (by omega)] at he
    have e : nameOk s = (decide (s.size ≠ 0) && decide (s.size ≤ 64)) := by rw [nameOk, he]; simp
    rw [e]
    (first | with_reducible refine Br.d (fun h => ?_) (fun h => ?_) | with_reducible refine Br.nd (fun h => ?_) (fun h => ?_) | with_reducible refine Br.e (fun h => ?_) (fun h => ?_) | with_reducible refine Br.ne (fun h => ?_) (fun h => ?_) | with_reducible refine Br.nne (fun h => ?_) (fun h => ?_) | with_reducible refine Br.se (fun h => ?_) (fun h => ?_) | with_reducible refine Br.sne (fun h => ?_) (fun h => ?_) | with_reducible refine Br.nb (fun h => ?_) (fun h => ?_) | with_reducible refine Br.mk (fun h => ?_) (fun h => ?_) | refine Br.d (fun h => ?_) (fun h => ?_) | refine Br.nd (fun h => ?_) (fun h => ?_) | refine Br.e (fun h => ?_) (fun h => ?_) | refine Br.ne (fun h => ?_) (fun h => ?_) | refine Br.nne (fun h => ?_) (fun h => ?_) | refine Br.se (fun h => ?_) (fun h => ?_) | refine Br.mk (fun h => ?_) (fun h => ?_))
    · refine ⟨?_, hw⟩
      rw [decide_eq_true (p := s.size ≠ 0) (by omega), Bool.true_and, decide_eq_decide.2 (show ((s.size : Int) ≤ 64) ↔ s.size ≤ 64 by omega)]
    · refine ⟨?_, hw⟩
      rw [decide_eq_false (p := s.size ≠ 0) (by omega)]; rfl

/-! ### place -/

/-- Where a key stands first. -/
def posM {β : Type} (k : ByteArray) : List (ByteArray × β) → Option Nat
  | [] => none
  | e :: l => if k == e.1 then some 0 else (posM k l).map (· + 1)

def placeD (k : ByteArray) (fs : Fs) : Int := match posM k fs with | some i => i | none => -1

theorem posM_app {β : Type} {k : ByteArray} {v : β} : ∀ {a b : List (ByteArray × β)}, getM k a = none → posM k (a ++ (k, v) :: b) = some a.length
  | [], b, _ => by simp [posM, ba_rfl]
  | e :: a, b, h => by
    rw [getM] at h
    split at h
    · cases h
    · rename_i hne
      rw [List.cons_append, posM, if_neg hne, posM_app h]; rfl
theorem posM_none {β : Type} {k : ByteArray} : ∀ {l : List (ByteArray × β)}, getM k l = none → posM k l = none
  | [], _ => rfl
  | e :: l, h => by
    rw [getM] at h
    split at h
    · cases h
    · rename_i hne; rw [posM, if_neg hne, posM_none h]; rfl
theorem placeD_app {k : ByteArray} {f : Fl} {a b : Fs} (h : getM k a = none) : placeD k (a ++ (k, f) :: b) = a.length := by unfold placeD; rw [posM_app h]
theorem placeD_none {k : ByteArray} {fs : Fs} (h : getM k fs = none) : placeD k fs = -1 := by unfold placeD; rw [posM_none h]

theorem erR_len (E : List RE) : (erR E).length = E.length := by simp [erR]
theorem erR_app (a b : List RE) : erR (a ++ b) = erR a ++ erR b := by simp [erR]
theorem erR_cons (e : RE) (b : List RE) : erR (e :: b) = (e.1, e.2.2) :: erR b := rfl

theorem place_spec {r : Nat} {s : Sl} {E : List RE} {st : DS} (k : ByteArray) (hE : erR E = st.fs) (hl : E.length ≤ 1000000) (hw : Sat R (RO r s E st Hs) w) :
    Gets Tryz.prog 68 #[.pointer (some ⟨r, 0, none⟩), .string k] w fun v w' => v = .int .i64 (placeD k st.fs) ∧ Sat R (RO r s E st Hs) w' := by
  apply call68
  have hsl : s.len = E.length := by have := OwnN.len (hw.take (OwnN 3 s 104 (E.map rowR))); rwa [List.length_map] at this
  refine ⟨fun i w => ∃ j : Nat, i = j ∧ j ≤ E.length ∧ getM k (st.fs.take j) = none ∧ Sat R (RO r s E st Hs) w, fun i _ => E.length - i.toNat, ⟨0, rfl, Nat.zero_le _, rfl, hw⟩, ?_⟩
  rintro z _ w ⟨j, rfl, hj, hn, hw⟩
  repeat (first | refine NilP.mk rfl ?_ | refine ⟨_, At.own selfS (by exact ⟨rfl, trivial⟩), ?_⟩ | refine ⟨_, At.own (eqS hw) (by exact ⟨rfl, trivial⟩), ?_⟩ | refine ⟨_, (by rw [add_off]; exact At.own selfS (by exact ⟨rfl, trivial⟩)), ?_⟩ | refine ⟨_, (by rw [add_off]; exact At.own (eqS hw) (by exact ⟨rfl, trivial⟩)), ?_⟩)
  (first | with_reducible refine Br.d (fun h => ?_) (fun h => ?_) | with_reducible refine Br.nd (fun h => ?_) (fun h => ?_) | with_reducible refine Br.e (fun h => ?_) (fun h => ?_) | with_reducible refine Br.ne (fun h => ?_) (fun h => ?_) | with_reducible refine Br.nne (fun h => ?_) (fun h => ?_) | with_reducible refine Br.se (fun h => ?_) (fun h => ?_) | with_reducible refine Br.sne (fun h => ?_) (fun h => ?_) | with_reducible refine Br.nb (fun h => ?_) (fun h => ?_) | with_reducible refine Br.mk (fun h => ?_) (fun h => ?_) | refine Br.d (fun h => ?_) (fun h => ?_) | refine Br.nd (fun h => ?_) (fun h => ?_) | refine Br.e (fun h => ?_) (fun h => ?_) | refine Br.ne (fun h => ?_) (fun h => ?_) | refine Br.nne (fun h => ?_) (fun h => ?_) | refine Br.se (fun h => ?_) (fun h => ?_) | refine Br.mk (fun h => ?_) (fun h => ?_))
  · have hj' : j < E.length := by omega
    repeat (first | refine NilP.mk rfl ?_ | refine ⟨_, At.own selfS (by exact ⟨rfl, trivial⟩), ?_⟩ | refine ⟨_, At.own (eqS hw) (by exact ⟨rfl, trivial⟩), ?_⟩ | refine ⟨_, (by rw [add_off]; exact At.own selfS (by exact ⟨rfl, trivial⟩)), ?_⟩ | refine ⟨_, (by rw [add_off]; exact At.own (eqS hw) (by exact ⟨rfl, trivial⟩)), ?_⟩)
    refine (RO.reads hw (eqS hw)).rngM hj' fun a ha el => ⟨_, el.zz (by exact ⟨rfl, trivial⟩), ?_⟩
    have hge : st.fs[j]'(by rw [← hE, erR_len]; exact hj') = (E[j].1, E[j].2.2) := by simp [← hE, erR]
    have hsplit : st.fs = st.fs.take j ++ (E[j].1, E[j].2.2) :: st.fs.drop (j + 1) := by
      rw [← hge, ← List.drop_eq_getElem_cons, List.take_append_drop]
    have hlen : (st.fs.take j).length = j := by rw [List.length_take, ← hE, erR_len]; omega
    (first | with_reducible refine Br.d (fun h => ?_) (fun h => ?_) | with_reducible refine Br.nd (fun h => ?_) (fun h => ?_) | with_reducible refine Br.e (fun h => ?_) (fun h => ?_) | with_reducible refine Br.ne (fun h => ?_) (fun h => ?_) | with_reducible refine Br.nne (fun h => ?_) (fun h => ?_) | with_reducible refine Br.se (fun h => ?_) (fun h => ?_) | with_reducible refine Br.sne (fun h => ?_) (fun h => ?_) | with_reducible refine Br.nb (fun h => ?_) (fun h => ?_) | with_reducible refine Br.mk (fun h => ?_) (fun h => ?_) | refine Br.d (fun h => ?_) (fun h => ?_) | refine Br.nd (fun h => ?_) (fun h => ?_) | refine Br.e (fun h => ?_) (fun h => ?_) | refine Br.ne (fun h => ?_) (fun h => ?_) | refine Br.nne (fun h => ?_) (fun h => ?_) | refine Br.se (fun h => ?_) (fun h => ?_) | refine Br.mk (fun h => ?_) (fun h => ?_))
    · subst h
      refine ⟨?_, hw⟩
      rw [hsplit, placeD_app hn, hlen]
    · rw [wrap64 (by omega) (by omega)]
      refine ⟨⟨j + 1, by omega, by omega, ?_, hw⟩, by dsimp only; omega⟩
      have : st.fs.take (j + 1) = st.fs.take j ++ [(E[j].1, E[j].2.2)] := by
        rw [← hge, List.take_succ_eq_append_getElem]
      rw [this]
      refine getM_of_notin ?_
      rw [List.map_append, List.mem_append, not_or]
      exact ⟨notin_of_getM hn, by simp; exact fun h2 => h h2.symm⟩
  · refine ⟨?_, hw⟩
    rw [List.take_of_length_le (by rw [← hE, erR_len]; omega)] at hn
    rw [placeD_none hn]

end Go.Proofs.YtgfneeoponiibaaGreat
/- The reference's disk: change, put, out. Condition: bounds on lengths. -/
namespace Go.Proofs.YtgfneeoponiibaaGreat
open Go Go.VC

variable {R : Cx} {Hs Rest : List HP} {w : World}

theorem metN_zero : metN 0 = (-1, true) := rfl
theorem metN_pos {n : Int} (h : 0 < n) : metN n = (n - 1, false) := by
  unfold metN
  rw [if_neg (by simp; omega)]
  simp; omega
theorem metN_no : metN (-1) = (-1, false) := rfl

theorem changeR_spec {r : Nat} {st : DS} {k k2 : ByteArray} (c : Counts st) (hk : k.size ≤ 9223372036854775807) (hk2 : k2.size ≤ 9223372036854775807) (hw : Sat R (RefAt r st :: Hs) w) :
    Gets Tryz.prog 67 #[.pointer (some ⟨r, 0, none⟩), .string k, .string k2] w fun v w' => v = .int .i64 (chg st (nameOk k && nameOk k2)).2 ∧ Sat R (RefAt r (chg st (nameOk k && nameOk k2)).1 :: Hs) w' := by
  apply call67
  refine (isName_spec k hk hw).use ?_
  rintro _ w ⟨rfl, hw⟩
  refine ⟨_, rfl, (isName_spec k2 hk2 hw).use ?_⟩
  rintro _ w ⟨rfl, hw⟩
  refine ⟨_, rfl, fun w => (nameOk k && nameOk k2) = true ∧ Sat R (RefAt r st :: Hs) w, ?_, ?_⟩
  · have no : (nameOk k && nameOk k2) = false → Value.int .i64 1 = .int .i64 (chg st (nameOk k && nameOk k2)).2 ∧ Sat R (RefAt r (chg st (nameOk k && nameOk k2)).1 :: Hs) w := fun h => by rw [h]; exact ⟨rfl, hw⟩
    (first | with_reducible refine Br.d (fun h => ?_) (fun h => ?_) | with_reducible refine Br.nd (fun h => ?_) (fun h => ?_) | with_reducible refine Br.e (fun h => ?_) (fun h => ?_) | with_reducible refine Br.ne (fun h => ?_) (fun h => ?_) | with_reducible refine Br.nne (fun h => ?_) (fun h => ?_) | with_reducible refine Br.se (fun h => ?_) (fun h => ?_) | with_reducible refine Br.sne (fun h => ?_) (fun h => ?_) | with_reducible refine Br.nb (fun h => ?_) (fun h => ?_) | with_reducible refine Br.mk (fun h => ?_) (fun h => ?_) | refine Br.d (fun h => ?_) (fun h => ?_) | refine Br.nd (fun h => ?_) (fun h => ?_) | refine Br.e (fun h => ?_) (fun h => ?_) | refine Br.ne (fun h => ?_) (fun h => ?_) | refine Br.nne (fun h => ?_) (fun h => ?_) | refine Br.se (fun h => ?_) (fun h => ?_) | refine Br.mk (fun h => ?_) (fun h => ?_))
    · exact no (by rw [h]; rfl)
    · (first | with_reducible refine Br.d (fun h => ?_) (fun h => ?_) | with_reducible refine Br.nd (fun h => ?_) (fun h => ?_) | with_reducible refine Br.e (fun h => ?_) (fun h => ?_) | with_reducible refine Br.ne (fun h => ?_) (fun h => ?_) | with_reducible refine Br.nne (fun h => ?_) (fun h => ?_) | with_reducible refine Br.se (fun h => ?_) (fun h => ?_) | with_reducible refine Br.sne (fun h => ?_) (fun h => ?_) | with_reducible refine Br.nb (fun h => ?_) (fun h => ?_) | with_reducible refine Br.mk (fun h => ?_) (fun h => ?_) | refine Br.d (fun h => ?_) (fun h => ?_) | refine Br.nd (fun h => ?_) (fun h => ?_) | refine Br.e (fun h => ?_) (fun h => ?_) | refine Br.ne (fun h => ?_) (fun h => ?_) | refine Br.nne (fun h => ?_) (fun h => ?_) | refine Br.se (fun h => ?_) (fun h => ?_) | refine Br.mk (fun h => ?_) (fun h => ?_))
      · rename_i h2; exact no (by rw [h, h2]; rfl)
      · rename_i h2; exact ⟨by rw [h, h2]; rfl, hw⟩
  rintro z w ⟨hok, hw⟩
  rw [hok]
  obtain ⟨s, E, hE, hw⟩ := Sat.ref.1 hw
  have a0 := c.a0; have a1 := c.a1; have f0 := c.f0; have f1 := c.f1
  repeat (first | refine NilP.mk rfl ?_ | refine ⟨_, At.own selfS (by exact ⟨rfl, trivial⟩), ?_⟩ | refine ⟨_, At.own (eqS hw) (by exact ⟨rfl, trivial⟩), ?_⟩ | refine ⟨_, (by rw [add_off]; exact At.own selfS (by exact ⟨rfl, trivial⟩)), ?_⟩ | refine ⟨_, (by rw [add_off]; exact At.own (eqS hw) (by exact ⟨rfl, trivial⟩)), ?_⟩)
  (first | with_reducible refine Br.d (fun h => ?_) (fun h => ?_) | with_reducible refine Br.nd (fun h => ?_) (fun h => ?_) | with_reducible refine Br.e (fun h => ?_) (fun h => ?_) | with_reducible refine Br.ne (fun h => ?_) (fun h => ?_) | with_reducible refine Br.nne (fun h => ?_) (fun h => ?_) | with_reducible refine Br.se (fun h => ?_) (fun h => ?_) | with_reducible refine Br.sne (fun h => ?_) (fun h => ?_) | with_reducible refine Br.nb (fun h => ?_) (fun h => ?_) | with_reducible refine Br.mk (fun h => ?_) (fun h => ?_) | refine Br.d (fun h => ?_) (fun h => ?_) | refine Br.nd (fun h => ?_) (fun h => ?_) | refine Br.e (fun h => ?_) (fun h => ?_) | refine Br.ne (fun h => ?_) (fun h => ?_) | refine Br.nne (fun h => ?_) (fun h => ?_) | refine Br.se (fun h => ?_) (fun h => ?_) | refine Br.mk (fun h => ?_) (fun h => ?_))
  · have e : chg st true = (st, 5) := by simp [chg, h]
    rw [e]; exact ⟨rfl, RO.shut hE hw⟩
  have hoff := h
  repeat (first | refine NilP.mk rfl ?_ | refine ⟨_, At.own selfS (by exact ⟨rfl, trivial⟩), ?_⟩ | refine ⟨_, At.own (eqS hw) (by exact ⟨rfl, trivial⟩), ?_⟩ | refine ⟨_, (by rw [add_off]; exact At.own selfS (by exact ⟨rfl, trivial⟩)), ?_⟩ | refine ⟨_, (by rw [add_off]; exact At.own (eqS hw) (by exact ⟨rfl, trivial⟩)), ?_⟩)
  (first | with_reducible refine Br.d (fun h => ?_) (fun h => ?_) | with_reducible refine Br.nd (fun h => ?_) (fun h => ?_) | with_reducible refine Br.e (fun h => ?_) (fun h => ?_) | with_reducible refine Br.ne (fun h => ?_) (fun h => ?_) | with_reducible refine Br.nne (fun h => ?_) (fun h => ?_) | with_reducible refine Br.se (fun h => ?_) (fun h => ?_) | with_reducible refine Br.sne (fun h => ?_) (fun h => ?_) | with_reducible refine Br.nb (fun h => ?_) (fun h => ?_) | with_reducible refine Br.mk (fun h => ?_) (fun h => ?_) | refine Br.d (fun h => ?_) (fun h => ?_) | refine Br.nd (fun h => ?_) (fun h => ?_) | refine Br.e (fun h => ?_) (fun h => ?_) | refine Br.ne (fun h => ?_) (fun h => ?_) | refine Br.nne (fun h => ?_) (fun h => ?_) | refine Br.se (fun h => ?_) (fun h => ?_) | refine Br.mk (fun h => ?_) (fun h => ?_))
  · repeat (first | refine NilP.mk rfl ?_ | refine ⟨_, At.own selfS (by exact ⟨rfl, trivial⟩), ?_⟩ | refine ⟨_, At.own (eqS hw) (by exact ⟨rfl, trivial⟩), ?_⟩ | refine ⟨_, (by rw [add_off]; exact At.own selfS (by exact ⟨rfl, trivial⟩)), ?_⟩ | refine ⟨_, (by rw [add_off]; exact At.own (eqS hw) (by exact ⟨rfl, trivial⟩)), ?_⟩)
    refine store_rule hw (by kernel_rfl) rfl (by simp [Value.cells, putL_len]) fun w hw => ?_
    repeat (first | refine NilP.mk rfl ?_ | refine ⟨_, At.own selfS (by exact ⟨rfl, trivial⟩), ?_⟩ | refine ⟨_, At.own (eqS hw) (by exact ⟨rfl, trivial⟩), ?_⟩ | refine ⟨_, (by rw [add_off]; exact At.own selfS (by exact ⟨rfl, trivial⟩)), ?_⟩ | refine ⟨_, (by rw [add_off]; exact At.own (eqS hw) (by exact ⟨rfl, trivial⟩)), ?_⟩)
    refine store_rule hw (by kernel_rfl) rfl (by simp [Value.cells, putL_len]) fun w hw => ?_
    have e : chg st true = ({ st with arm := -1, off := true }, 5) := by simp [chg, hoff, h, metN_zero]
    rw [e]; exact ⟨rfl, RO.shut hE hw⟩
  have harm : ¬ st.arm = 0 := h
  have hm2 : (metN st.arm).2 = false := by
    by_cases hp : 0 < st.arm
    · rw [metN_pos hp]
    · rw [show st.arm = -1 by omega]; rfl
  refine ⟨fun w => Sat R (RO r s E { st with arm := (metN st.arm).1 } Hs) w, ?_, ?_⟩
  · repeat (first | refine NilP.mk rfl ?_ | refine ⟨_, At.own selfS (by exact ⟨rfl, trivial⟩), ?_⟩ | refine ⟨_, At.own (eqS hw) (by exact ⟨rfl, trivial⟩), ?_⟩ | refine ⟨_, (by rw [add_off]; exact At.own selfS (by exact ⟨rfl, trivial⟩)), ?_⟩ | refine ⟨_, (by rw [add_off]; exact At.own (eqS hw) (by exact ⟨rfl, trivial⟩)), ?_⟩)
    (first | with_reducible refine Br.d (fun h => ?_) (fun h => ?_) | with_reducible refine Br.nd (fun h => ?_) (fun h => ?_) | with_reducible refine Br.e (fun h => ?_) (fun h => ?_) | with_reducible refine Br.ne (fun h => ?_) (fun h => ?_) | with_reducible refine Br.nne (fun h => ?_) (fun h => ?_) | with_reducible refine Br.se (fun h => ?_) (fun h => ?_) | with_reducible refine Br.sne (fun h => ?_) (fun h => ?_) | with_reducible refine Br.nb (fun h => ?_) (fun h => ?_) | with_reducible refine Br.mk (fun h => ?_) (fun h => ?_) | refine Br.d (fun h => ?_) (fun h => ?_) | refine Br.nd (fun h => ?_) (fun h => ?_) | refine Br.e (fun h => ?_) (fun h => ?_) | refine Br.ne (fun h => ?_) (fun h => ?_) | refine Br.nne (fun h => ?_) (fun h => ?_) | refine Br.se (fun h => ?_) (fun h => ?_) | refine Br.mk (fun h => ?_) (fun h => ?_))
    · have h : 0 < st.arm := h
      repeat (first | refine NilP.mk rfl ?_ | refine ⟨_, At.own selfS (by exact ⟨rfl, trivial⟩), ?_⟩ | refine ⟨_, At.own (eqS hw) (by exact ⟨rfl, trivial⟩), ?_⟩ | refine ⟨_, (by rw [add_off]; exact At.own selfS (by exact ⟨rfl, trivial⟩)), ?_⟩ | refine ⟨_, (by rw [add_off]; exact At.own (eqS hw) (by exact ⟨rfl, trivial⟩)), ?_⟩)
      rw [wrap64 (by omega) (by omega)]
      refine store_rule hw (by kernel_rfl) rfl (by simp [Value.cells, putL_len]) fun w hw => ?_
      rw [metN_pos h]; exact hw
    · have h : ¬ 0 < st.arm := h
      have : st.arm = -1 := by omega
      rw [this]
      have e : ({ st with arm := (metN (-1)).1 } : DS) = st := by rw [show (metN (-1)).1 = -1 from rfl, ← this]
      rw [e]; exact hw
  intro z w hw
  repeat (first | refine NilP.mk rfl ?_ | refine ⟨_, At.own selfS (by exact ⟨rfl, trivial⟩), ?_⟩ | refine ⟨_, At.own (eqS hw) (by exact ⟨rfl, trivial⟩), ?_⟩ | refine ⟨_, (by rw [add_off]; exact At.own selfS (by exact ⟨rfl, trivial⟩)), ?_⟩ | refine ⟨_, (by rw [add_off]; exact At.own (eqS hw) (by exact ⟨rfl, trivial⟩)), ?_⟩)
  (first | with_reducible refine Br.d (fun h => ?_) (fun h => ?_) | with_reducible refine Br.nd (fun h => ?_) (fun h => ?_) | with_reducible refine Br.e (fun h => ?_) (fun h => ?_) | with_reducible refine Br.ne (fun h => ?_) (fun h => ?_) | with_reducible refine Br.nne (fun h => ?_) (fun h => ?_) | with_reducible refine Br.se (fun h => ?_) (fun h => ?_) | with_reducible refine Br.sne (fun h => ?_) (fun h => ?_) | with_reducible refine Br.nb (fun h => ?_) (fun h => ?_) | with_reducible refine Br.mk (fun h => ?_) (fun h => ?_) | refine Br.d (fun h => ?_) (fun h => ?_) | refine Br.nd (fun h => ?_) (fun h => ?_) | refine Br.e (fun h => ?_) (fun h => ?_) | refine Br.ne (fun h => ?_) (fun h => ?_) | refine Br.nne (fun h => ?_) (fun h => ?_) | refine Br.se (fun h => ?_) (fun h => ?_) | refine Br.mk (fun h => ?_) (fun h => ?_))
  · repeat (first | refine NilP.mk rfl ?_ | refine ⟨_, At.own selfS (by exact ⟨rfl, trivial⟩), ?_⟩ | refine ⟨_, At.own (eqS hw) (by exact ⟨rfl, trivial⟩), ?_⟩ | refine ⟨_, (by rw [add_off]; exact At.own selfS (by exact ⟨rfl, trivial⟩)), ?_⟩ | refine ⟨_, (by rw [add_off]; exact At.own (eqS hw) (by exact ⟨rfl, trivial⟩)), ?_⟩)
    refine store_rule hw (by kernel_rfl) rfl (by simp [Value.cells, putL_len]) fun w hw => ?_
    have h : st.fail = 0 := h
    have e : chg st true = ({ st with arm := (metN st.arm).1, fail := -1 }, 4) := by simp [chg, hoff, hm2, h, metN_zero]
    rw [e]; exact ⟨rfl, RO.shut hE hw⟩
  have hfail : ¬ st.fail = 0 := h
  repeat (first | refine NilP.mk rfl ?_ | refine ⟨_, At.own selfS (by exact ⟨rfl, trivial⟩), ?_⟩ | refine ⟨_, At.own (eqS hw) (by exact ⟨rfl, trivial⟩), ?_⟩ | refine ⟨_, (by rw [add_off]; exact At.own selfS (by exact ⟨rfl, trivial⟩)), ?_⟩ | refine ⟨_, (by rw [add_off]; exact At.own (eqS hw) (by exact ⟨rfl, trivial⟩)), ?_⟩)
  (first | with_reducible refine Br.d (fun h => ?_) (fun h => ?_) | with_reducible refine Br.nd (fun h => ?_) (fun h => ?_) | with_reducible refine Br.e (fun h => ?_) (fun h => ?_) | with_reducible refine Br.ne (fun h => ?_) (fun h => ?_) | with_reducible refine Br.nne (fun h => ?_) (fun h => ?_) | with_reducible refine Br.se (fun h => ?_) (fun h => ?_) | with_reducible refine Br.sne (fun h => ?_) (fun h => ?_) | with_reducible refine Br.nb (fun h => ?_) (fun h => ?_) | with_reducible refine Br.mk (fun h => ?_) (fun h => ?_) | refine Br.d (fun h => ?_) (fun h => ?_) | refine Br.nd (fun h => ?_) (fun h => ?_) | refine Br.e (fun h => ?_) (fun h => ?_) | refine Br.ne (fun h => ?_) (fun h => ?_) | refine Br.nne (fun h => ?_) (fun h => ?_) | refine Br.se (fun h => ?_) (fun h => ?_) | refine Br.mk (fun h => ?_) (fun h => ?_))
  · have h : 0 < st.fail := h
    repeat (first | refine NilP.mk rfl ?_ | refine ⟨_, At.own selfS (by exact ⟨rfl, trivial⟩), ?_⟩ | refine ⟨_, At.own (eqS hw) (by exact ⟨rfl, trivial⟩), ?_⟩ | refine ⟨_, (by rw [add_off]; exact At.own selfS (by exact ⟨rfl, trivial⟩)), ?_⟩ | refine ⟨_, (by rw [add_off]; exact At.own (eqS hw) (by exact ⟨rfl, trivial⟩)), ?_⟩)
    rw [wrap64 (x := st.fail - 1) (by omega) (by omega)]
    refine store_rule hw (by kernel_rfl) rfl (by simp [Value.cells, putL_len]) fun w hw => ?_
    have e : chg st true = ({ st with arm := (metN st.arm).1, fail := st.fail - 1 }, 0) := by simp [chg, hoff, hm2, metN_pos h]
    rw [e]; exact ⟨rfl, RO.shut hE hw⟩
  · have h : ¬ 0 < st.fail := h
    have hf : st.fail = -1 := by omega
    have e : chg st true = ({ st with arm := (metN st.arm).1, fail := st.fail }, 0) := by simp [chg, hoff, hm2, hf, metN_no]
    rw [e]; exact ⟨rfl, RO.shut hE hw⟩

/-! ### put, out -/
def ltB (a b : ByteArray) : Bool := Op.bytesLess a.toList b.toList
/-- How many stand ahead. -/
def atM {β : Type} (k : ByteArray) : List (ByteArray × β) → Nat
  | [] => 0
  | e :: l => if ltB e.1 k then atM k l + 1 else 0
def insM {β : Type} (x : ByteArray × β) (l : List (ByteArray × β)) : List (ByteArray × β) := l.take (atM x.1 l) ++ x :: l.drop (atM x.1 l)
theorem atM_le {β : Type} (k : ByteArray) : ∀ l : List (ByteArray × β), atM k l ≤ l.length
  | [] => Nat.le_refl _
  | e :: l => by rw [atM]; split; have := atM_le k l; simp; omega; simp
theorem insM_perm {β : Type} (x : ByteArray × β) (l : List (ByteArray × β)) : (insM x l).Perm (x :: l) := by
  unfold insM
  refine List.perm_middle.trans ?_
  rw [List.take_append_drop]

theorem one_rowR (e : RE) : oneAll (rowR e) = true := rfl
theorem one_rows (E : List RE) : oneAll (E.map rowR).flatten = true := by
  unfold oneAll
  rw [List.all_eq_true]
  intro v hv
  obtain ⟨x, hx, hv⟩ := List.mem_flatten.1 hv
  obtain ⟨e, _, rfl⟩ := List.mem_map.1 hx
  exact List.all_eq_true.1 (one_rowR e) v hv

theorem elF : ElN Tryz.prog 64 64 104 3 48 := ⟨Tryz.underlying64, ⟨_, Tryz.underlying64⟩, by kernel_rfl⟩

theorem bufs_mid {a b : List RE} {e : RE} (h : Sat R (Own e.2.1 5 (b8 e.2.2.b) :: BufsAt (a ++ b) :: Hs) w) : Sat R (BufsAt (a ++ e :: b) :: Hs) w := Bufs.split.2 h

theorem putR_spec {r : Nat} {s sb : Sl} {E : List RE} {st : DS} {k : ByteArray} {f : Fl} (hE : erR E = st.fs) (hl : E.length ≤ 1000000) (hw : Sat R (RO r s E st (Own sb 5 (b8 f.b) :: Hs)) w) :
    Gets Tryz.prog 69 #[.pointer (some ⟨r, 0, none⟩), .agg #[.string k, .slice sb.a sb.len sb.cap, .int .i64 f.sure]] w fun v w' => v = .tuple #[] ∧ Sat R (RefAt r { st with fs := insM (k, f) st.fs } :: Hs) w' := by
  apply call69
  have hsl : s.len = E.length := by have := OwnN.len (hw.take (OwnN 3 s 104 (E.map rowR))); rwa [List.length_map] at this
  have hcap : s.len ≤ s.cap := OwnN.cap (by decide) (hw.take (OwnN 3 s 104 (E.map rowR)))
  have hfl : st.fs.length = E.length := by rw [← hE, erR_len]
  have hat := atM_le k st.fs
  refine new_rule hw fun bf w hw => ?_
  let G : List HP := pts bf (.cells [.string k, .slice sb.a sb.len sb.cap, .int .i64 f.sure].toArray 104 (0, 0)) :: RO r s E st (Own sb 5 (b8 f.b) :: Hs)
  have hw : Sat R G w := hw
  refine ⟨fun at_ w => at_ = (atM k st.fs : Nat) ∧ Sat R G w, ?_, ?_⟩
  · refine ⟨fun i w => ∃ j : Nat, i = j ∧ j ≤ E.length ∧ atM k st.fs = j + atM k (st.fs.drop j) ∧ Sat R G w, fun i _ => E.length - i.toNat, ⟨0, rfl, Nat.zero_le _, by simp, hw⟩, ?_⟩
    rintro z _ w ⟨j, rfl, hj, hn, hw⟩
    refine drw_rule hw fun w hw => ?_
    repeat (first | refine NilP.mk rfl ?_ | refine ⟨_, At.own selfS (by exact ⟨rfl, trivial⟩), ?_⟩ | refine ⟨_, At.own (eqS hw) (by exact ⟨rfl, trivial⟩), ?_⟩ | refine ⟨_, (by rw [add_off]; exact At.own selfS (by exact ⟨rfl, trivial⟩)), ?_⟩ | refine ⟨_, (by rw [add_off]; exact At.own (eqS hw) (by exact ⟨rfl, trivial⟩)), ?_⟩)
    (first | with_reducible refine Br.d (fun h => ?_) (fun h => ?_) | with_reducible refine Br.nd (fun h => ?_) (fun h => ?_) | with_reducible refine Br.e (fun h => ?_) (fun h => ?_) | with_reducible refine Br.ne (fun h => ?_) (fun h => ?_) | with_reducible refine Br.nne (fun h => ?_) (fun h => ?_) | with_reducible refine Br.se (fun h => ?_) (fun h => ?_) | with_reducible refine Br.sne (fun h => ?_) (fun h => ?_) | with_reducible refine Br.nb (fun h => ?_) (fun h => ?_) | with_reducible refine Br.mk (fun h => ?_) (fun h => ?_) | refine Br.d (fun h => ?_) (fun h => ?_) | refine Br.nd (fun h => ?_) (fun h => ?_) | refine Br.e (fun h => ?_) (fun h => ?_) | refine Br.ne (fun h => ?_) (fun h => ?_) | refine Br.nne (fun h => ?_) (fun h => ?_) | refine Br.se (fun h => ?_) (fun h => ?_) | refine Br.mk (fun h => ?_) (fun h => ?_))
    · have hj' : j < E.length := by omega
      repeat (first | refine NilP.mk rfl ?_ | refine ⟨_, At.own selfS (by exact ⟨rfl, trivial⟩), ?_⟩ | refine ⟨_, At.own (eqS hw) (by exact ⟨rfl, trivial⟩), ?_⟩ | refine ⟨_, (by rw [add_off]; exact At.own selfS (by exact ⟨rfl, trivial⟩)), ?_⟩ | refine ⟨_, (by rw [add_off]; exact At.own (eqS hw) (by exact ⟨rfl, trivial⟩)), ?_⟩)
      have hr : ReadsN 3 s (E.map rowR) (Sat R G) := OwnN.readsM (rows := E.map rowR) (T := 104) hw selfS
      refine hr.rngM hj' fun a ha el => ⟨_, el.zz (by exact ⟨rfl, trivial⟩), ⟨_, At.own selfS (by exact ⟨rfl, trivial⟩), ?_⟩⟩
      have hge : st.fs[j]'(by omega) = (E[j].1, E[j].2.2) := by simp [← hE, erR]
      rw [drop_get (by omega), hge, atM] at hn
      refine Br.mk (fun h => ?_) (fun h => ?_)
      · rw [if_pos (show ltB _ k = true from h)] at hn
        rw [wrap64 (by omega) (by omega)]
        exact ⟨⟨j + 1, by omega, by omega, by omega, hw⟩, by dsimp only; omega⟩
      · rw [if_neg (by rw [show ltB _ k = false from h]; simp)] at hn
        exact ⟨by omega, hw⟩
    · have : j = E.length := by omega
      subst this
      rw [List.drop_eq_nil_of_le (by omega)] at hn
      exact ⟨by rw [hn]; simp [atM], hw⟩
  rintro z _ w ⟨rfl, hw⟩
  generalize hAt : atM k st.fs = at_ at hat
  refine new_rule hw fun b1 w hw => ?_
  have hw : Sat R (OwnN 3 s 104 (E.map rowR) :: pts b1 (.cells #[] 104 (0, 0)) :: pts bf (.cells [.string k, .slice sb.a sb.len sb.cap, .int .i64 f.sure].toArray 104 (0, 0)) :: pts r (rCells st s) :: BufsAt E :: Own sb 5 (b8 f.b) :: Hs) w := hw.take (OwnN 3 s 104 (E.map rowR))
  obtain ⟨R', hro, ⟨xR, hxR⟩, hw, back⟩ := OwnN.lend hw
  repeat (first | refine NilP.mk rfl ?_ | refine ⟨_, At.own selfS (by exact ⟨rfl, trivial⟩), ?_⟩ | refine ⟨_, At.own (eqS hw) (by exact ⟨rfl, trivial⟩), ?_⟩ | refine ⟨_, (by rw [add_off]; exact At.own selfS (by exact ⟨rfl, trivial⟩)), ?_⟩ | refine ⟨_, (by rw [add_off]; exact At.own (eqS hw) (by exact ⟨rfl, trivial⟩)), ?_⟩)
  refine ⟨by omega, by omega, ?_⟩
  have hr1 : RoN 3 R' ⟨s.a, at_, s.cap⟩ ((E.map rowR).take at_) := hro.take (by rw [List.length_map]; omega) s.cap
  have h1 : ∀ l : List RE, Wid 3 (l.map rowR) := fun l x hx => by obtain ⟨e, _, rfl⟩ := List.mem_map.1 hx; rfl
  rw [← List.map_take] at hr1
  refine appendN0_rule elF hw (srcRoN elF.hk hw hr1 (one_rows _)) (h1 _) (by simp; omega) (by simp; omega) fun s2 w hw => ?_
  repeat (first | refine NilP.mk rfl ?_ | refine ⟨_, At.own selfS (by exact ⟨rfl, trivial⟩), ?_⟩ | refine ⟨_, At.own (eqS hw) (by exact ⟨rfl, trivial⟩), ?_⟩ | refine ⟨_, (by rw [add_off]; exact At.own selfS (by exact ⟨rfl, trivial⟩)), ?_⟩ | refine ⟨_, (by rw [add_off]; exact At.own (eqS hw) (by exact ⟨rfl, trivial⟩)), ?_⟩)
  refine ⟨k, sb, f.sure, At.own (eqS hw) (by exact ⟨rfl, rfl, rfl, trivial⟩), ?_⟩
  refine pushN_rule elF hw rfl rfl (by simp; omega) (by simp; omega) fun s3 w hw => ?_
  repeat (first | refine NilP.mk rfl ?_ | refine ⟨_, At.own selfS (by exact ⟨rfl, trivial⟩), ?_⟩ | refine ⟨_, At.own (eqS hw) (by exact ⟨rfl, trivial⟩), ?_⟩ | refine ⟨_, (by rw [add_off]; exact At.own selfS (by exact ⟨rfl, trivial⟩)), ?_⟩ | refine ⟨_, (by rw [add_off]; exact At.own (eqS hw) (by exact ⟨rfl, trivial⟩)), ?_⟩)
  refine ⟨by omega, by omega, ?_⟩
  have hr2 : RoN 3 R' ⟨cutA s.a at_ s.cap 3, s.len - at_, s.cap - at_⟩ (((E.map rowR).take s.len).drop at_) := hro.sub (by omega) (by rw [List.length_map]; omega) (fun h => by omega)
  rw [← List.map_take, ← List.map_drop, List.take_of_length_le (by omega)] at hr2
  refine appendN_rule elF hw (srcRoN elF.hk hw hr2 (one_rows _)) (h1 _) (by simp; omega) (by simp; omega) fun s4 w hw => ?_
  have hw := hw.take (pts r (rCells st s))
  repeat (first | refine NilP.mk rfl ?_ | refine ⟨_, At.own selfS (by exact ⟨rfl, trivial⟩), ?_⟩ | refine ⟨_, At.own (eqS hw) (by exact ⟨rfl, trivial⟩), ?_⟩ | refine ⟨_, (by rw [add_off]; exact At.own selfS (by exact ⟨rfl, trivial⟩)), ?_⟩ | refine ⟨_, (by rw [add_off]; exact At.own (eqS hw) (by exact ⟨rfl, trivial⟩)), ?_⟩)
  refine store_rule hw (by kernel_rfl) rfl (by simp [Value.cells, putL_len]) fun w hw => ?_
  refine ⟨rfl, ?_⟩
  have hw := back hw
  have hw := hw.drop
  have eR : (E.take at_).map rowR ++ [[.string k, .slice sb.a sb.len sb.cap, .int .i64 f.sure]] ++ (E.drop at_).map rowR = (E.take at_ ++ (k, sb, f) :: E.drop at_).map rowR := by simp [rowR]
  have hw : Sat R (pts r (rCells { st with fs := insM (k, f) st.fs } s4) :: OwnN 3 s4 104 ((E.take at_ ++ (k, sb, f) :: E.drop at_).map rowR) :: pts bf (.cells [.string k, .slice sb.a sb.len sb.cap, .int .i64 f.sure].toArray 104 (0, 0)) :: BufsAt E :: Own sb 5 (b8 f.b) :: Hs) w := by
    rw [← eR]; exact hw
  refine RO.shut (s := s4) (E := E.take at_ ++ (k, sb, f) :: E.drop at_) ?_ ?_
  · rw [erR_app, erR_cons]
    show _ = st.fs.take (atM k st.fs) ++ (k, f) :: st.fs.drop (atM k st.fs)
    rw [hAt, ← hE]
    simp [erR, List.map_take, List.map_drop]
  · refine hw.cons fun _ h => h.cons fun _ h => ?_
    have h := h.drop.swap
    rw [show BufsAt E = BufsAt (E.take at_ ++ E.drop at_) by rw [List.take_append_drop]] at h
    exact Bufs.split.2 h

theorem outR_spec {r : Nat} {s : Sl} {a b : List RE} {e : RE} {st : DS} (hE : erR (a ++ e :: b) = st.fs) (hl : (a ++ e :: b).length ≤ 1000000) (hw : Sat R (RO r s (a ++ e :: b) st Hs) w) :
    Gets Tryz.prog 126 #[.pointer (some ⟨r, 0, none⟩), .int .i64 (a.length : Nat)] w fun v w' => v = .tuple #[] ∧ Sat R (Own e.2.1 5 (b8 e.2.2.b) :: RefAt r { st with fs := erR (a ++ b) } :: Hs) w' := by
  apply call126
  have hsl : s.len = (a ++ e :: b).length := by have := OwnN.len (hw.take (OwnN 3 s 104 ((a ++ e :: b).map rowR))); rwa [List.length_map] at this
  have hcap : s.len ≤ s.cap := OwnN.cap (by decide) (hw.take (OwnN 3 s 104 ((a ++ e :: b).map rowR)))
  have hll : (a ++ e :: b).length = a.length + b.length + 1 := by simp; omega
  rw [hll] at hl hsl
  refine new_rule hw fun b1 w hw => ?_
  have hw := hw.take (OwnN 3 s 104 ((a ++ e :: b).map rowR))
  obtain ⟨R', hro, ⟨xR, hxR⟩, hw, back⟩ := OwnN.lend hw
  repeat (first | refine NilP.mk rfl ?_ | refine ⟨_, At.own selfS (by exact ⟨rfl, trivial⟩), ?_⟩ | refine ⟨_, At.own (eqS hw) (by exact ⟨rfl, trivial⟩), ?_⟩ | refine ⟨_, (by rw [add_off]; exact At.own selfS (by exact ⟨rfl, trivial⟩)), ?_⟩ | refine ⟨_, (by rw [add_off]; exact At.own (eqS hw) (by exact ⟨rfl, trivial⟩)), ?_⟩)
  refine ⟨by omega, by omega, ?_⟩
  have h1 : ∀ l : List RE, Wid 3 (l.map rowR) := fun l x hx => by obtain ⟨e, _, rfl⟩ := List.mem_map.1 hx; rfl
  have hr1 : RoN 3 R' ⟨s.a, a.length, s.cap⟩ (((a ++ e :: b).map rowR).take a.length) := hro.take (by rw [List.length_map, hll]; omega) s.cap
  rw [← List.map_take, List.take_left' rfl] at hr1
  refine appendN0_rule elF hw (srcRoN elF.hk hw hr1 (one_rows _)) (h1 _) (by simp; omega) (by simp; omega) fun s2 w hw => ?_
  repeat (first | refine NilP.mk rfl ?_ | refine ⟨_, At.own selfS (by exact ⟨rfl, trivial⟩), ?_⟩ | refine ⟨_, At.own (eqS hw) (by exact ⟨rfl, trivial⟩), ?_⟩ | refine ⟨_, (by rw [add_off]; exact At.own selfS (by exact ⟨rfl, trivial⟩)), ?_⟩ | refine ⟨_, (by rw [add_off]; exact At.own (eqS hw) (by exact ⟨rfl, trivial⟩)), ?_⟩)
  rw [wrap64 (by omega) (by omega)]
  refine ⟨by omega, by omega, ?_⟩
  have hr2 : RoN 3 R' ⟨cutA s.a (a.length + 1) s.cap 3, s.len - (a.length + 1), s.cap - (a.length + 1)⟩ ((((a ++ e :: b).map rowR).take s.len).drop (a.length + 1)) := hro.sub (by omega) (by rw [List.length_map, hll]; omega) (fun h => by omega)
  rw [← List.map_take, ← List.map_drop, List.take_of_length_le (by rw [hll]; omega)] at hr2
  have ed : (a ++ e :: b).drop (a.length + 1) = b := by rw [← List.drop_drop, List.drop_left' rfl]; rfl
  rw [ed] at hr2
  refine appendN_rule elF hw (srcRoN elF.hk hw hr2 (one_rows _)) (h1 _) (by simp; omega) (by simp; omega) fun s4 w hw => ?_
  have hw := hw.take (pts r (rCells st s))
  repeat (first | refine NilP.mk rfl ?_ | refine ⟨_, At.own selfS (by exact ⟨rfl, trivial⟩), ?_⟩ | refine ⟨_, At.own (eqS hw) (by exact ⟨rfl, trivial⟩), ?_⟩ | refine ⟨_, (by rw [add_off]; exact At.own selfS (by exact ⟨rfl, trivial⟩)), ?_⟩ | refine ⟨_, (by rw [add_off]; exact At.own (eqS hw) (by exact ⟨rfl, trivial⟩)), ?_⟩)
  refine store_rule hw (by kernel_rfl) rfl (by simp [Value.cells, putL_len]) fun w hw => ?_
  refine ⟨rfl, ?_⟩
  have hw := (back hw).drop
  rw [← List.map_append] at hw
  have hw : Sat R (pts r (rCells { st with fs := erR (a ++ b) } s4) :: OwnN 3 s4 104 ((a ++ b).map rowR) :: BufsAt (a ++ e :: b) :: Hs) w := hw
  have hw := Bufs.split.1 (hw.take (BufsAt (a ++ e :: b)))
  exact hw.cons fun _ h => RO.shut (s := s4) (E := a ++ b) rfl ((h.take (pts r (rCells { st with fs := erR (a ++ b) } s4))).cons fun _ h => h.swap)

end Go.Proofs.YtgfneeoponiibaaGreat
/- The reference's disk: its operations. Condition: bounds on lengths. -/
namespace Go.Proofs.YtgfneeoponiibaaGreat
open Go Go.VC

variable {R : Cx} {Hs Rest : List HP} {w : World}

theorem sizeR_spec {r : Nat} {s : Sl} {E : List RE} {st : DS} (hE : erR E = st.fs) (hl : E.length ≤ 1000000) (ht : total st.fs ≤ 16777216) (hw : Sat R (RO r s E st Hs) w) :
    Gets Tryz.prog 36 #[.pointer (some ⟨r, 0, none⟩)] w fun v w' => v = .int .i64 (total st.fs) ∧ Sat R (RO r s E st Hs) w' := by
  apply call36
  have hsl : s.len = E.length := by have := OwnN.len (hw.take (OwnN 3 s 104 (E.map rowR))); rwa [List.length_map] at this
  refine ⟨fun n i w => ∃ j : Nat, i = j ∧ j ≤ E.length ∧ n + total (st.fs.drop j) = total st.fs ∧ 0 ≤ n ∧ Sat R (RO r s E st Hs) w, fun n i _ => E.length - i.toNat, ⟨0, rfl, Nat.zero_le _, by simp, Int.le_refl 0, hw⟩, ?_⟩
  rintro z n _ w ⟨j, rfl, hj, hn, h0, hw⟩
  repeat (first | refine NilP.mk rfl ?_ | refine ⟨_, At.own selfS (by exact ⟨rfl, trivial⟩), ?_⟩ | refine ⟨_, At.own (eqS hw) (by exact ⟨rfl, trivial⟩), ?_⟩ | refine ⟨_, (by rw [add_off]; exact At.own selfS (by exact ⟨rfl, trivial⟩)), ?_⟩ | refine ⟨_, (by rw [add_off]; exact At.own (eqS hw) (by exact ⟨rfl, trivial⟩)), ?_⟩)
  (first | with_reducible refine Br.d (fun h => ?_) (fun h => ?_) | with_reducible refine Br.nd (fun h => ?_) (fun h => ?_) | with_reducible refine Br.e (fun h => ?_) (fun h => ?_) | with_reducible refine Br.ne (fun h => ?_) (fun h => ?_) | with_reducible refine Br.nne (fun h => ?_) (fun h => ?_) | with_reducible refine Br.se (fun h => ?_) (fun h => ?_) | with_reducible refine Br.sne (fun h => ?_) (fun h => ?_) | with_reducible refine Br.nb (fun h => ?_) (fun h => ?_) | with_reducible refine Br.mk (fun h => ?_) (fun h => ?_) | refine Br.d (fun h => ?_) (fun h => ?_) | refine Br.nd (fun h => ?_) (fun h => ?_) | refine Br.e (fun h => ?_) (fun h => ?_) | refine Br.ne (fun h => ?_) (fun h => ?_) | refine Br.nne (fun h => ?_) (fun h => ?_) | refine Br.se (fun h => ?_) (fun h => ?_) | refine Br.mk (fun h => ?_) (fun h => ?_))
  · have hj' : j < E.length := by omega
    repeat (first | refine NilP.mk rfl ?_ | refine ⟨_, At.own selfS (by exact ⟨rfl, trivial⟩), ?_⟩ | refine ⟨_, At.own (eqS hw) (by exact ⟨rfl, trivial⟩), ?_⟩ | refine ⟨_, (by rw [add_off]; exact At.own selfS (by exact ⟨rfl, trivial⟩)), ?_⟩ | refine ⟨_, (by rw [add_off]; exact At.own (eqS hw) (by exact ⟨rfl, trivial⟩)), ?_⟩)
    refine (RO.reads hw (eqS hw)).rngM hj' fun a ha el => ⟨_, el.f 1 (by exact ⟨rfl, trivial⟩), ?_⟩
    have hfl : st.fs.length = E.length := by rw [← hE, erR_len]
    have hge : st.fs[j]'(by omega) = (E[j].1, E[j].2.2) := by simp [← hE, erR]
    rw [drop_get (by omega), hge, total_cons] at hn
    have hlen : E[j].2.1.len = E[j].2.2.b.length := by
      have h1 := hw.take (BufsAt E)
      have hsplit : E = E.take j ++ E[j] :: E.drop (j + 1) := by rw [← List.drop_eq_getElem_cons, List.take_append_drop]
      rw [hsplit] at h1
      have := Own.len (Bufs.split.1 h1)
      simpa using this
    have hnn := total_nn (st.fs.drop (j + 1))
    simp only at hn
    rw [hlen, wrap64 (by omega) (by omega), wrap64 (by omega) (by omega)]
    exact ⟨⟨j + 1, by omega, by omega, by omega, by omega, hw⟩, by dsimp only; omega⟩
  · have : j = E.length := by omega
    subst this
    rw [List.drop_eq_nil_of_le (by rw [← hE, erR_len]; omega), total_nil] at hn
    exact ⟨by rw [show n = total st.fs by omega], hw⟩

theorem oneAll_str (xs : List ByteArray) : oneAll (xs.map Value.string) = true := by
  unfold oneAll
  rw [List.all_eq_true]
  intro v hv
  obtain ⟨x, _, rfl⟩ := List.mem_map.1 hv
  rfl

theorem namesR_spec {r : Nat} {s : Sl} {E : List RE} {st : DS} (hE : erR E = st.fs) (hl : E.length ≤ 1000000) (hw : Sat R (RO r s E st Hs) w) :
    Gets Tryz.prog 98 #[.pointer (some ⟨r, 0, none⟩)] w fun v w' => ∃ t : Sl, v = .slice t.a t.len t.cap ∧ Sat R (Own t 9 ((st.fs.map (·.1)).map Value.string) :: RO r s E st Hs) w' := by
  apply call98
  have hsl : s.len = E.length := by have := OwnN.len (hw.take (OwnN 3 s 104 (E.map rowR))); rwa [List.length_map] at this
  have hfl : st.fs.length = E.length := by rw [← hE, erR_len]
  refine ⟨fun t i w => ∃ j : Nat, i = j ∧ j ≤ E.length ∧ Sat R (Own t 9 (((st.fs.take j).map (·.1)).map Value.string) :: RO r s E st Hs) w, fun t i _ => E.length - i.toNat, ⟨0, rfl, Nat.zero_le _, by simpa using Own.nil hw⟩, ?_⟩
  rintro z t _ w ⟨j, rfl, hj, hw⟩
  repeat (first | refine NilP.mk rfl ?_ | refine ⟨_, At.own selfS (by exact ⟨rfl, trivial⟩), ?_⟩ | refine ⟨_, At.own (eqS hw) (by exact ⟨rfl, trivial⟩), ?_⟩ | refine ⟨_, (by rw [add_off]; exact At.own selfS (by exact ⟨rfl, trivial⟩)), ?_⟩ | refine ⟨_, (by rw [add_off]; exact At.own (eqS hw) (by exact ⟨rfl, trivial⟩)), ?_⟩)
  (first | with_reducible refine Br.d (fun h => ?_) (fun h => ?_) | with_reducible refine Br.nd (fun h => ?_) (fun h => ?_) | with_reducible refine Br.e (fun h => ?_) (fun h => ?_) | with_reducible refine Br.ne (fun h => ?_) (fun h => ?_) | with_reducible refine Br.nne (fun h => ?_) (fun h => ?_) | with_reducible refine Br.se (fun h => ?_) (fun h => ?_) | with_reducible refine Br.sne (fun h => ?_) (fun h => ?_) | with_reducible refine Br.nb (fun h => ?_) (fun h => ?_) | with_reducible refine Br.mk (fun h => ?_) (fun h => ?_) | refine Br.d (fun h => ?_) (fun h => ?_) | refine Br.nd (fun h => ?_) (fun h => ?_) | refine Br.e (fun h => ?_) (fun h => ?_) | refine Br.ne (fun h => ?_) (fun h => ?_) | refine Br.nne (fun h => ?_) (fun h => ?_) | refine Br.se (fun h => ?_) (fun h => ?_) | refine Br.mk (fun h => ?_) (fun h => ?_))
  · have hj' : j < E.length := by omega
    repeat (first | refine NilP.mk rfl ?_ | refine ⟨_, At.own selfS (by exact ⟨rfl, trivial⟩), ?_⟩ | refine ⟨_, At.own (eqS hw) (by exact ⟨rfl, trivial⟩), ?_⟩ | refine ⟨_, (by rw [add_off]; exact At.own selfS (by exact ⟨rfl, trivial⟩)), ?_⟩ | refine ⟨_, (by rw [add_off]; exact At.own (eqS hw) (by exact ⟨rfl, trivial⟩)), ?_⟩)
    have hr : ReadsN 3 s (E.map rowR) (fun w' => w' = w) := OwnN.readsM (rows := E.map rowR) (T := 104) hw (eqS hw)
    refine hr.rngM hj' fun a ha el => ⟨_, el.zz (by exact ⟨rfl, trivial⟩), ?_⟩
    have hge : st.fs[j]'(by omega) = (E[j].1, E[j].2.2) := by simp [← hE, erR]
    have hlt : ((st.fs.take j).map (·.1)).length = j := by simp; omega
    refine push_rule (⟨Tryz.underlying93, ⟨_, Tryz.underlying93⟩, by kernel_rfl⟩ : El Tryz.prog 93 93 9 16) hw (oneAll_str _) rfl (by rw [List.length_map, hlt]; omega) (by rw [List.length_map, hlt]; omega) fun t w hw => ?_
    rw [wrap64 (by omega) (by omega)]
    refine ⟨⟨j + 1, by omega, by omega, ?_⟩, by dsimp only; omega⟩
    have e : ((st.fs.take (j + 1)).map (·.1)).map Value.string = ((st.fs.take j).map (·.1)).map Value.string ++ [.string E[j].1] := by
      rw [List.take_succ_eq_append_getElem (by omega), hge]; simp
    rw [e]; exact hw
  · have : j = E.length := by omega
    subst this
    rw [List.take_of_length_le (by omega)] at hw
    exact ⟨t, rfl, hw⟩

/-- A file that is there. -/
theorem find_ref {E : List RE} {fs : Fs} {k : ByteArray} {f : Fl} (hE : erR E = fs) (hf : getM k fs = some f) : ∃ a sb b, E = a ++ (k, sb, f) :: b ∧ getM k (erR a) = none ∧ fs = erR a ++ (k, f) :: erR b ∧ placeD k fs = (a.length : Nat) := by
  have hg : getM k E = none → False := fun h => by
    have : getM k (erR E) = none := by
      refine getM_of_notin ?_
      have := notin_of_getM h
      simpa [erR, Function.comp_def] using this
    rw [hE, hf] at this; cases this
  cases hc : getM k E with
  | none => exact (hg hc).elim
  | some x =>
    obtain ⟨a, b, rfl, ha⟩ := getM_split hc
    have ha2 : getM k (erR a) = none := by
      refine getM_of_notin ?_
      have := notin_of_getM ha
      simpa [erR, Function.comp_def] using this
    have hfs : fs = erR a ++ (k, x.2) :: erR b := by rw [← hE, erR_app, erR_cons]
    rw [hfs, getM_app ha2 (ba_rfl k)] at hf
    cases hf
    exact ⟨a, x.1, b, rfl, ha2, hfs, by rw [hfs, placeD_app ha2, erR_len]⟩

theorem getElem_mid {α : Type} {a b : List α} {e : α} (h : a.length < (a ++ e :: b).length) : (a ++ e :: b)[a.length] = e := by simp
theorem set_mid {α : Type} {a b : List α} {e e' : α} : (a ++ e :: b).set a.length e' = a ++ e' :: b := by simp

/-! ### Append -/
def ensureR (k : ByteArray) (fs : Fs) : Fs := if (getM k fs).isSome then fs else insM (k, ⟨[], 0⟩) fs
def putBR (k : ByteArray) (xs : List Int) (fs : Fs) : Fs := updM k (fun f => { f with b := f.b ++ xs }) (ensureR k fs)
def appendGR (st : DS) (k : ByteArray) (xs : List Int) : DS × Int := if total st.fs + xs.length > st.room then (st, 3) else ({ st with fs := putBR k xs st.fs }, 0)
def appendR (st : DS) (k : ByteArray) (xs : List Int) : DS × Int := doing st (nameOk k) fun st => appendGR st k xs

theorem ensureR_some (k : ByteArray) (fs : Fs) : (getM k (ensureR k fs)).isSome = true := by
  unfold ensureR
  by_cases h : (getM k fs).isSome = true
  · rw [if_pos h]; exact h
  · rw [if_neg h]
    refine isSome_of_mem ?_
    exact ((insM_perm (k, (⟨[], 0⟩ : Fl)) fs).map (·.1)).mem_iff.2 (List.mem_map_of_mem (f := Prod.fst) List.mem_cons_self)

theorem total_perm {a b : Fs} (h : a.Perm b) : total a = total b := by
  induction h with
  | nil => rfl
  | cons x _ ih => rw [total_cons, total_cons, ih]
  | swap x y l => rw [total_cons, total_cons, total_cons, total_cons]; omega
  | trans _ _ h1 h2 => rw [h1, h2]

theorem ensureR_total (k : ByteArray) (fs : Fs) : total (ensureR k fs) = total fs := by
  unfold ensureR
  split
  · rfl
  · rw [total_perm (insM_perm _ fs), total_cons]; simp
theorem ensureR_len (k : ByteArray) (fs : Fs) : (ensureR k fs).length ≤ fs.length + 1 := by
  unfold ensureR
  split
  · omega
  · rw [(insM_perm (k, (⟨[], 0⟩ : Fl)) fs).length_eq]; simp

theorem appendR_spec {r : Nat} {st : DS} {k : ByteArray} {x : Sl} {xs : List Int} (i : Inv st) (hn : st.fs.length ≤ 100000) (hk : k.size ≤ 9223372036854775807) (hx : Ro R x (b8 xs)) (hxl : xs.length ≤ 1099511627776) (hw : Sat R (RefAt r st :: Hs) w) :
    Gets Tryz.prog 31 #[.pointer (some ⟨r, 0, none⟩), .string k, .slice x.a x.len x.cap] w fun v w' => v = .int .i64 (appendR st k xs).2 ∧ Sat R (RefAt r (appendR st k xs).1 :: Hs) w' := by
  have hxlen : x.len = xs.length := by have := hx.len; simpa using this
  apply call31
  refine (changeR_spec i.toCounts hk hk hw).use ?_
  rw [Bool.and_self]
  rintro _ w ⟨rfl, hw⟩
  refine ⟨_, rfl, ?_⟩
  (first | with_reducible refine Br.d (fun h => ?_) (fun h => ?_) | with_reducible refine Br.nd (fun h => ?_) (fun h => ?_) | with_reducible refine Br.e (fun h => ?_) (fun h => ?_) | with_reducible refine Br.ne (fun h => ?_) (fun h => ?_) | with_reducible refine Br.nne (fun h => ?_) (fun h => ?_) | with_reducible refine Br.se (fun h => ?_) (fun h => ?_) | with_reducible refine Br.sne (fun h => ?_) (fun h => ?_) | with_reducible refine Br.nb (fun h => ?_) (fun h => ?_) | with_reducible refine Br.mk (fun h => ?_) (fun h => ?_) | refine Br.d (fun h => ?_) (fun h => ?_) | refine Br.nd (fun h => ?_) (fun h => ?_) | refine Br.e (fun h => ?_) (fun h => ?_) | refine Br.ne (fun h => ?_) (fun h => ?_) | refine Br.nne (fun h => ?_) (fun h => ?_) | refine Br.se (fun h => ?_) (fun h => ?_) | refine Br.mk (fun h => ?_) (fun h => ?_))
  · have e : appendR st k xs = chg st (nameOk k) := if_neg h
    rw [e]; exact ⟨rfl, hw⟩
  have e : appendR st k xs = appendGR (chg st (nameOk k)).1 k xs := if_pos h
  rw [e]
  have i2 := chg_inv i (nameOk k)
  have hn2 : (chg st (nameOk k)).1.fs.length ≤ 100000 := by rw [(chg_fs st (nameOk k)).1]; exact hn
  generalize (chg st (nameOk k)).1 = st2 at *
  clear e i hn
  obtain ⟨s, E, hE, hw⟩ := Sat.ref.1 hw
  have r1 := i2.r1; have r0 := i2.r0; have hfull := i2.full
  have hfl : st2.fs.length = E.length := by rw [← hE, erR_len]
  have hnn := total_nn st2.fs
  refine drw_rule hw fun w hw => ?_
  repeat (first | refine NilP.mk rfl ?_ | refine ⟨_, At.own selfS (by exact ⟨rfl, trivial⟩), ?_⟩ | refine ⟨_, At.own (eqS hw) (by exact ⟨rfl, trivial⟩), ?_⟩ | refine ⟨_, (by rw [add_off]; exact At.own selfS (by exact ⟨rfl, trivial⟩)), ?_⟩ | refine ⟨_, (by rw [add_off]; exact At.own (eqS hw) (by exact ⟨rfl, trivial⟩)), ?_⟩)
  refine (sizeR_spec hE (by omega) (by omega) hw).use ?_
  rintro _ w ⟨rfl, hw⟩
  refine ⟨_, rfl, hw, ?_⟩
  rw [wrap64 (by omega) (by omega)]
  (first | with_reducible refine Br.d (fun h => ?_) (fun h => ?_) | with_reducible refine Br.nd (fun h => ?_) (fun h => ?_) | with_reducible refine Br.e (fun h => ?_) (fun h => ?_) | with_reducible refine Br.ne (fun h => ?_) (fun h => ?_) | with_reducible refine Br.nne (fun h => ?_) (fun h => ?_) | with_reducible refine Br.se (fun h => ?_) (fun h => ?_) | with_reducible refine Br.sne (fun h => ?_) (fun h => ?_) | with_reducible refine Br.nb (fun h => ?_) (fun h => ?_) | with_reducible refine Br.mk (fun h => ?_) (fun h => ?_) | refine Br.d (fun h => ?_) (fun h => ?_) | refine Br.nd (fun h => ?_) (fun h => ?_) | refine Br.e (fun h => ?_) (fun h => ?_) | refine Br.ne (fun h => ?_) (fun h => ?_) | refine Br.nne (fun h => ?_) (fun h => ?_) | refine Br.se (fun h => ?_) (fun h => ?_) | refine Br.mk (fun h => ?_) (fun h => ?_))
  · have e : appendGR st2 k xs = (st2, 3) := if_pos (by omega)
    rw [e]; exact ⟨rfl, RO.shut hE hw⟩
  have e : appendGR st2 k xs = ({ st2 with fs := putBR k xs st2.fs }, 0) := if_neg (by omega)
  rw [e]
  refine ⟨fun w => ∃ s E, erR E = ensureR k st2.fs ∧ Sat R (RO r s E { st2 with fs := ensureR k st2.fs } Hs) w, ?_, ?_⟩
  · refine (place_spec k hE (by omega) hw).use ?_
    rintro _ w ⟨rfl, hw⟩
    refine ⟨_, rfl, ?_⟩
    cases hg : getM k st2.fs with
    | none =>
      rw [placeD_none hg]
      refine Br.t (by decide) ?_
      have e2 : ensureR k st2.fs = insM (k, ⟨[], 0⟩) st2.fs := by unfold ensureR; rw [hg]; rfl
      rw [e2]
      have hw := (Own.nil (T := 5) hw).arr (Hs' := RO r s E st2 (Own ⟨none, 0, 0⟩ 5 [] :: Hs))
      refine (putR_spec (sb := ⟨none, 0, 0⟩) (f := ⟨[], 0⟩) (k := k) hE (by omega) hw).use ?_
      rintro _ w ⟨rfl, hw⟩
      obtain ⟨s, E, hE, hw⟩ := Sat.ref.1 hw
      exact ⟨rfl, s, E, hE, hw⟩
    | some f =>
      obtain ⟨a, sb, b, _, _, _, hp⟩ := find_ref hE hg
      rw [hp]
      refine Br.f (by simp) ?_
      have e2 : ensureR k st2.fs = st2.fs := by unfold ensureR; rw [hg]; rfl
      rw [e2]
      exact ⟨s, E, hE, hw⟩
  clear hw hE hfl
  rintro z w ⟨s, E, hE, hw⟩
  have hfl : E.length ≤ 100001 := by have := ensureR_len k st2.fs; rw [← hE, erR_len] at this; omega
  refine (place_spec k hE (by omega) hw).use ?_
  rintro _ w ⟨rfl, hw⟩
  refine ⟨_, rfl, ?_⟩
  obtain ⟨f, hf⟩ := Option.isSome_iff_exists.1 (ensureR_some k st2.fs)
  have hft : (f.b.length : Int) ≤ total st2.fs := by rw [← ensureR_total k]; exact total_le hf
  obtain ⟨a, sb, b, rfl, ha, hfs, hp⟩ := find_ref hE hf
  rw [show placeD k (DS.mk st2.room (ensureR k st2.fs) st2.fail st2.arm st2.off).fs = (a.length : Nat) from hp]
  have hlt : a.length < (a ++ (k, sb, f) :: b).length := by simp
  have hsl : s.len = (a ++ (k, sb, f) :: b).length := by have := OwnN.len (hw.take (OwnN 3 s 104 ((a ++ (k, sb, f) :: b).map rowR))); rwa [List.length_map] at this
  refine drw_ruleT hw fun w hw => ?_
  repeat (first | refine NilP.mk rfl ?_ | refine ⟨_, At.own selfS (by exact ⟨rfl, trivial⟩), ?_⟩ | refine ⟨_, At.own (eqS hw) (by exact ⟨rfl, trivial⟩), ?_⟩ | refine ⟨_, (by rw [add_off]; exact At.own selfS (by exact ⟨rfl, trivial⟩)), ?_⟩ | refine ⟨_, (by rw [add_off]; exact At.own (eqS hw) (by exact ⟨rfl, trivial⟩)), ?_⟩)
  have hr : ReadsN 3 s ((a ++ (k, sb, f) :: b).map rowR) (Sat R (tru :: RO r s (a ++ (k, sb, f) :: b) { st2 with fs := ensureR k st2.fs } Hs)) := OwnN.readsM (rows := (a ++ (k, sb, f) :: b).map rowR) (T := 104) hw selfS
  refine hr.rngM hlt fun ad hadr el => ?_
  rw [getElem_mid hlt] at el
  refine ⟨_, el.f 1 (by exact ⟨rfl, trivial⟩), new_rule hw fun b1 w hw => ⟨hw.absorb, ?_⟩⟩
  simp only
  have hw := Bufs.split.1 (hw.take (BufsAt (a ++ (k, sb, f) :: b)))
  simp only at hw
  obtain ⟨R', hr2, _, hwl, back⟩ := Own.lend hw (by rw [List.length_map]; omega)
  have hsrc : Src Tryz.prog 1 25 (.slice sb.a sb.len sb.cap) f.b.length (b8 f.b) w := by
    have := srcRo Tryz.underlying25 hwl hr2 (one_b8 f.b)
    simpa using this
  refine append0_rule elB8 hwl hsrc (by omega) (by omega) fun s2 w hw => ?_
  have hw := back hw
  have toS : ∀ {w} {xs : List Value} {s2 : Sl}, Sat R (Own sb 5 (b8 f.b) :: Own s2 5 xs :: BufsAt (a ++ b) :: tru :: pts r (rCells { st2 with fs := ensureR k st2.fs } s) :: OwnN 3 s 104 ((a ++ (k, sb, f) :: b).map rowR) :: Hs) w → Sat R (tru :: RO r s (a ++ (k, sb, f) :: b) { st2 with fs := ensureR k st2.fs } Hs) w := fun {w xs s2} h => by
    have h := h.swap.drop
    have h := (Bufs.split (a := a) (b := b) (e := (k, sb, f))).2 h
    exact h.arr
  refine ⟨toS hw, ?_⟩
  have hsrc2 : Src Tryz.prog 1 25 (.slice x.a x.len x.cap) xs.length (b8 xs) w := by
    have := srcRo Tryz.underlying25 hw hx (one_b8 xs)
    simpa using this
  refine append_rule elB8 hw.swap hsrc2 (one_b8 _) (by simp; omega) (by simp; omega) fun s3 w hw => ?_
  refine ⟨toS hw.swap, ?_⟩
  refine (hr.rngM hlt fun ad hadr el => ?_)
  refine OwnN.storeM (E := a ++ (k, sb, f) :: b) (g := rowR) (T := 104) 1 (k, s3, { f with b := f.b ++ xs }) hw hadr hlt (by kernel_rfl) rfl (by simp [Value.cells]) (by rw [getElem_mid hlt]; rfl) fun w hw => ⟨trivial, ?_⟩
  rw [set_mid] at hw
  refine RO.shut (s := s) (E := a ++ (k, s3, { f with b := f.b ++ xs }) :: b) ?_ ?_
  · show _ = putBR k xs st2.fs
    unfold putBR
    rw [hfs, updM_app ha, erR_app, erR_cons]
  · have hw : Sat R (Own sb 5 (b8 f.b) :: tru :: Own s3 5 (b8 (f.b ++ xs)) :: BufsAt (a ++ b) :: pts r (rCells { st2 with fs := putBR k xs st2.fs } s) :: OwnN 3 s 104 ((a ++ (k, s3, { f with b := f.b ++ xs }) :: b).map rowR) :: Hs) w := by
      rw [show b8 (f.b ++ xs) = b8 f.b ++ b8 xs by simp]
      exact hw.arr
    have hw := (Bufs.split (a := a) (b := b) (e := (k, s3, { f with b := f.b ++ xs }))).2 hw.drop.drop
    exact hw.arr

end Go.Proofs.YtgfneeoponiibaaGreat
/- The reference's disk: Sync, Unlink, Rename, Read, Fail, Arm, Crash. Condition: bounds on lengths. -/
namespace Go.Proofs.YtgfneeoponiibaaGreat
open Go Go.VC

variable {R : Cx} {Hs Rest : List HP} {w : World}

theorem failR_spec {r : Nat} {st : DS} (n : Int) (hw : Sat R (RefAt r st :: Hs) w) :
    Gets Tryz.prog 27 #[.pointer (some ⟨r, 0, none⟩), .int .i64 n] w fun v w' => v = .int .i64 (if n < 0 then 1 else 0) ∧ Sat R (RefAt r { st with fail := if n < 0 then st.fail else n } :: Hs) w' := by
  obtain ⟨s, E, hE, hw⟩ := Sat.ref.1 hw
  apply call27
  (first | with_reducible refine Br.d (fun h => ?_) (fun h => ?_) | with_reducible refine Br.nd (fun h => ?_) (fun h => ?_) | with_reducible refine Br.e (fun h => ?_) (fun h => ?_) | with_reducible refine Br.ne (fun h => ?_) (fun h => ?_) | with_reducible refine Br.nne (fun h => ?_) (fun h => ?_) | with_reducible refine Br.se (fun h => ?_) (fun h => ?_) | with_reducible refine Br.sne (fun h => ?_) (fun h => ?_) | with_reducible refine Br.nb (fun h => ?_) (fun h => ?_) | with_reducible refine Br.mk (fun h => ?_) (fun h => ?_) | refine Br.d (fun h => ?_) (fun h => ?_) | refine Br.nd (fun h => ?_) (fun h => ?_) | refine Br.e (fun h => ?_) (fun h => ?_) | refine Br.ne (fun h => ?_) (fun h => ?_) | refine Br.nne (fun h => ?_) (fun h => ?_) | refine Br.se (fun h => ?_) (fun h => ?_) | refine Br.mk (fun h => ?_) (fun h => ?_))
  · rw [if_pos h, if_pos h]; exact ⟨rfl, RO.shut hE hw⟩
  · repeat (first | refine NilP.mk rfl ?_ | refine ⟨_, At.own selfS (by exact ⟨rfl, trivial⟩), ?_⟩ | refine ⟨_, At.own (eqS hw) (by exact ⟨rfl, trivial⟩), ?_⟩ | refine ⟨_, (by rw [add_off]; exact At.own selfS (by exact ⟨rfl, trivial⟩)), ?_⟩ | refine ⟨_, (by rw [add_off]; exact At.own (eqS hw) (by exact ⟨rfl, trivial⟩)), ?_⟩)
    refine store_rule hw (by kernel_rfl) rfl (by simp [Value.cells, putL_len]) fun w hw => ?_
    rw [if_neg h, if_neg h]; exact ⟨rfl, RO.shut hE hw⟩

theorem armR_spec {r : Nat} {st : DS} (n : Int) (hw : Sat R (RefAt r st :: Hs) w) :
    Gets Tryz.prog 28 #[.pointer (some ⟨r, 0, none⟩), .int .i64 n] w fun v w' => v = .int .i64 (if n < 0 then 1 else 0) ∧ Sat R (RefAt r { st with arm := if n < 0 then st.arm else n } :: Hs) w' := by
  obtain ⟨s, E, hE, hw⟩ := Sat.ref.1 hw
  apply call28
  (first | with_reducible refine Br.d (fun h => ?_) (fun h => ?_) | with_reducible refine Br.nd (fun h => ?_) (fun h => ?_) | with_reducible refine Br.e (fun h => ?_) (fun h => ?_) | with_reducible refine Br.ne (fun h => ?_) (fun h => ?_) | with_reducible refine Br.nne (fun h => ?_) (fun h => ?_) | with_reducible refine Br.se (fun h => ?_) (fun h => ?_) | with_reducible refine Br.sne (fun h => ?_) (fun h => ?_) | with_reducible refine Br.nb (fun h => ?_) (fun h => ?_) | with_reducible refine Br.mk (fun h => ?_) (fun h => ?_) | refine Br.d (fun h => ?_) (fun h => ?_) | refine Br.nd (fun h => ?_) (fun h => ?_) | refine Br.e (fun h => ?_) (fun h => ?_) | refine Br.ne (fun h => ?_) (fun h => ?_) | refine Br.nne (fun h => ?_) (fun h => ?_) | refine Br.se (fun h => ?_) (fun h => ?_) | refine Br.mk (fun h => ?_) (fun h => ?_))
  · rw [if_pos h, if_pos h]; exact ⟨rfl, RO.shut hE hw⟩
  · repeat (first | refine NilP.mk rfl ?_ | refine ⟨_, At.own selfS (by exact ⟨rfl, trivial⟩), ?_⟩ | refine ⟨_, At.own (eqS hw) (by exact ⟨rfl, trivial⟩), ?_⟩ | refine ⟨_, (by rw [add_off]; exact At.own selfS (by exact ⟨rfl, trivial⟩)), ?_⟩ | refine ⟨_, (by rw [add_off]; exact At.own (eqS hw) (by exact ⟨rfl, trivial⟩)), ?_⟩)
    refine store_rule hw (by kernel_rfl) rfl (by simp [Value.cells, putL_len]) fun w hw => ?_
    rw [if_neg h, if_neg h]; exact ⟨rfl, RO.shut hE hw⟩

theorem RO.len {r : Nat} {s : Sl} {E : List RE} {st : DS} (hw : Sat R (RO r s E st Hs) w) : s.len = E.length := by
  have := OwnN.len (hw.take (OwnN 3 s 104 (E.map rowR))); rwa [List.length_map] at this

theorem RO.blen {r : Nat} {s : Sl} {a b : List RE} {e : RE} {st : DS} (hw : Sat R (RO r s (a ++ e :: b) st Hs) w) : e.2.1.len = e.2.2.b.length ∧ e.2.1.len ≤ e.2.1.cap := by
  have h1 := Bufs.split.1 (hw.take (BufsAt (a ++ e :: b)))
  exact ⟨by have := Own.len h1; simpa using this, Own.cap h1⟩

theorem syncR_spec {r : Nat} {st : DS} {k : ByteArray} (i : Inv st) (hn : st.fs.length ≤ 1000000) (hk : k.size ≤ 9223372036854775807) (hw : Sat R (RefAt r st :: Hs) w) :
    Gets Tryz.prog 100 #[.pointer (some ⟨r, 0, none⟩), .string k] w fun v w' => v = .int .i64 (syncD st k).2 ∧ Sat R (RefAt r (syncD st k).1 :: Hs) w' := by
  apply call100
  refine (changeR_spec i.toCounts hk hk hw).use ?_
  rw [Bool.and_self]
  rintro _ w ⟨rfl, hw⟩
  refine ⟨_, rfl, ?_⟩
  (first | with_reducible refine Br.d (fun h => ?_) (fun h => ?_) | with_reducible refine Br.nd (fun h => ?_) (fun h => ?_) | with_reducible refine Br.e (fun h => ?_) (fun h => ?_) | with_reducible refine Br.ne (fun h => ?_) (fun h => ?_) | with_reducible refine Br.nne (fun h => ?_) (fun h => ?_) | with_reducible refine Br.se (fun h => ?_) (fun h => ?_) | with_reducible refine Br.sne (fun h => ?_) (fun h => ?_) | with_reducible refine Br.nb (fun h => ?_) (fun h => ?_) | with_reducible refine Br.mk (fun h => ?_) (fun h => ?_) | refine Br.d (fun h => ?_) (fun h => ?_) | refine Br.nd (fun h => ?_) (fun h => ?_) | refine Br.e (fun h => ?_) (fun h => ?_) | refine Br.ne (fun h => ?_) (fun h => ?_) | refine Br.nne (fun h => ?_) (fun h => ?_) | refine Br.se (fun h => ?_) (fun h => ?_) | refine Br.mk (fun h => ?_) (fun h => ?_))
  · have e : syncD st k = chg st (nameOk k) := if_neg h
    rw [e]; exact ⟨rfl, hw⟩
  have e : syncD st k = syncG k (chg st (nameOk k)).1 := if_pos h
  rw [e]
  have i2 := chg_inv i (nameOk k)
  have hn2 : (chg st (nameOk k)).1.fs.length ≤ 1000000 := by rw [(chg_fs st (nameOk k)).1]; exact hn
  generalize (chg st (nameOk k)).1 = st2 at *
  clear e i hn
  obtain ⟨s, E, hE, hw⟩ := Sat.ref.1 hw
  refine (place_spec k hE (by rw [← erR_len, hE]; exact hn2) hw).use ?_
  rintro _ w ⟨rfl, hw⟩
  refine ⟨_, rfl, ?_⟩
  cases hg : getM k st2.fs with
  | none =>
    rw [placeD_none hg]
    have e : syncG k st2 = (st2, 2) := by unfold syncG; rw [hg]; rfl
    rw [e]
    exact Br.t (by decide) ⟨rfl, RO.shut hE hw⟩
  | some f =>
    obtain ⟨a, sb, b, rfl, ha, hfs, hp⟩ := find_ref hE hg
    rw [hp]
    refine Br.f (by simp) ?_
    have e : syncG k st2 = ({ st2 with fs := updM k (fun f => { f with sure := f.b.length }) st2.fs }, 0) := if_pos (by rw [hg]; rfl)
    rw [e]
    have hlt : a.length < (a ++ (k, sb, f) :: b).length := by simp
    have hbl := (RO.blen hw).1
    simp only at hbl
    refine drw_rule hw fun w hw => ?_
    repeat (first | refine NilP.mk rfl ?_ | refine ⟨_, At.own selfS (by exact ⟨rfl, trivial⟩), ?_⟩ | refine ⟨_, At.own (eqS hw) (by exact ⟨rfl, trivial⟩), ?_⟩ | refine ⟨_, (by rw [add_off]; exact At.own selfS (by exact ⟨rfl, trivial⟩)), ?_⟩ | refine ⟨_, (by rw [add_off]; exact At.own (eqS hw) (by exact ⟨rfl, trivial⟩)), ?_⟩)
    have hr : ReadsN 3 s ((a ++ (k, sb, f) :: b).map rowR) (Sat R (RO r s (a ++ (k, sb, f) :: b) st2 Hs)) := RO.reads hw selfS
    refine hr.rngM hlt fun ad hadr el => ?_
    rw [getElem_mid hlt] at el
    refine ⟨_, el.f 1 (by exact ⟨rfl, trivial⟩), ?_⟩
    simp only
    refine hr.rngM hlt fun ad hadr el => ?_
    refine OwnN.storeM (E := a ++ (k, sb, f) :: b) (g := rowR) (T := 104) 2 (k, sb, { f with sure := f.b.length }) hw hadr hlt (by kernel_rfl) rfl (by simp [Value.cells]) (by rw [getElem_mid hlt, hbl]; rfl) fun w hw => ⟨trivial, ?_⟩
    rw [set_mid] at hw
    refine RO.shut (s := s) (E := a ++ (k, sb, { f with sure := f.b.length }) :: b) ?_ ?_
    · show _ = updM k _ st2.fs
      rw [hfs, updM_app ha, erR_app, erR_cons]
    · have hw : Sat R (BufsAt (a ++ (k, sb, f) :: b) :: pts r (rCells { st2 with fs := updM k (fun f => { f with sure := f.b.length }) st2.fs } s) :: OwnN 3 s 104 ((a ++ (k, sb, { f with sure := f.b.length }) :: b).map rowR) :: Hs) w := hw.arr
      have hw := (Bufs.split (a := a) (b := b) (e := (k, sb, { f with sure := f.b.length }))).2 ((Bufs.split (a := a) (b := b) (e := (k, sb, f))).1 hw)
      exact hw.arr

theorem unlinkR_spec {r : Nat} {st : DS} {k : ByteArray} (i : Inv st) (hn : st.fs.length ≤ 1000000) (hk : k.size ≤ 9223372036854775807) (hw : Sat R (RefAt r st :: Hs) w) :
    Gets Tryz.prog 99 #[.pointer (some ⟨r, 0, none⟩), .string k] w fun v w' => v = .int .i64 (unlinkD st k).2 ∧ Sat R (RefAt r (unlinkD st k).1 :: Hs) w' := by
  apply call99
  refine (changeR_spec i.toCounts hk hk hw).use ?_
  rw [Bool.and_self]
  rintro _ w ⟨rfl, hw⟩
  refine ⟨_, rfl, ?_⟩
  (first | with_reducible refine Br.d (fun h => ?_) (fun h => ?_) | with_reducible refine Br.nd (fun h => ?_) (fun h => ?_) | with_reducible refine Br.e (fun h => ?_) (fun h => ?_) | with_reducible refine Br.ne (fun h => ?_) (fun h => ?_) | with_reducible refine Br.nne (fun h => ?_) (fun h => ?_) | with_reducible refine Br.se (fun h => ?_) (fun h => ?_) | with_reducible refine Br.sne (fun h => ?_) (fun h => ?_) | with_reducible refine Br.nb (fun h => ?_) (fun h => ?_) | with_reducible refine Br.mk (fun h => ?_) (fun h => ?_) | refine Br.d (fun h => ?_) (fun h => ?_) | refine Br.nd (fun h => ?_) (fun h => ?_) | refine Br.e (fun h => ?_) (fun h => ?_) | refine Br.ne (fun h => ?_) (fun h => ?_) | refine Br.nne (fun h => ?_) (fun h => ?_) | refine Br.se (fun h => ?_) (fun h => ?_) | refine Br.mk (fun h => ?_) (fun h => ?_))
  · have e : unlinkD st k = chg st (nameOk k) := if_neg h
    rw [e]; exact ⟨rfl, hw⟩
  have e : unlinkD st k = unlinkG k (chg st (nameOk k)).1 := if_pos h
  rw [e]
  have hn2 : (chg st (nameOk k)).1.fs.length ≤ 1000000 := by rw [(chg_fs st (nameOk k)).1]; exact hn
  generalize (chg st (nameOk k)).1 = st2 at *
  clear e i hn
  obtain ⟨s, E, hE, hw⟩ := Sat.ref.1 hw
  refine (place_spec k hE (by rw [← erR_len, hE]; exact hn2) hw).use ?_
  rintro _ w ⟨rfl, hw⟩
  refine ⟨_, rfl, ?_⟩
  cases hg : getM k st2.fs with
  | none =>
    rw [placeD_none hg]
    have e : unlinkG k st2 = (st2, 2) := by unfold unlinkG; rw [hg]; rfl
    rw [e]
    exact Br.t (by decide) ⟨rfl, RO.shut hE hw⟩
  | some f =>
    obtain ⟨a, sb, b, rfl, ha, hfs, hp⟩ := find_ref hE hg
    rw [hp]
    refine Br.f (by simp) ?_
    have e : unlinkG k st2 = ({ st2 with fs := delM k st2.fs }, 0) := if_pos (by rw [hg]; rfl)
    rw [e]
    refine (outR_spec hE (by rw [← erR_len, hE]; exact hn2) hw).use ?_
    rintro _ w ⟨rfl, hw⟩
    have ed : erR (a ++ b) = delM k st2.fs := by rw [hfs, delM_app ha (ba_rfl k), erR_app]
    rw [ed] at hw
    exact ⟨rfl, rfl, hw.drop⟩

theorem readR_spec {r : Nat} {st : DS} {k : ByteArray} (i : Inv st) (hn : st.fs.length ≤ 1000000) (hk : k.size ≤ 9223372036854775807) (hw : Sat R (RefAt r st :: Hs) w) :
    Gets Tryz.prog 105 #[.pointer (some ⟨r, 0, none⟩), .string k] w fun v w' => ∃ t : Sl, v = .tuple #[.slice t.a t.len t.cap, .int .i64 (readD st k).2] ∧ Sat R (Own t 5 (b8 (readD st k).1) :: RefAt r st :: Hs) w' := by
  apply call105
  refine (isName_spec k hk hw).use ?_
  rintro _ w ⟨rfl, hw⟩
  refine ⟨_, rfl, ?_⟩
  obtain ⟨s, E, hE, hw⟩ := Sat.ref.1 hw
  have r1 := i.r1; have hfull := i.full
  repeat (first | refine NilP.mk rfl ?_ | refine ⟨_, At.own selfS (by exact ⟨rfl, trivial⟩), ?_⟩ | refine ⟨_, At.own (eqS hw) (by exact ⟨rfl, trivial⟩), ?_⟩ | refine ⟨_, (by rw [add_off]; exact At.own selfS (by exact ⟨rfl, trivial⟩)), ?_⟩ | refine ⟨_, (by rw [add_off]; exact At.own (eqS hw) (by exact ⟨rfl, trivial⟩)), ?_⟩)
  (first | with_reducible refine Br.d (fun h => ?_) (fun h => ?_) | with_reducible refine Br.nd (fun h => ?_) (fun h => ?_) | with_reducible refine Br.e (fun h => ?_) (fun h => ?_) | with_reducible refine Br.ne (fun h => ?_) (fun h => ?_) | with_reducible refine Br.nne (fun h => ?_) (fun h => ?_) | with_reducible refine Br.se (fun h => ?_) (fun h => ?_) | with_reducible refine Br.sne (fun h => ?_) (fun h => ?_) | with_reducible refine Br.nb (fun h => ?_) (fun h => ?_) | with_reducible refine Br.mk (fun h => ?_) (fun h => ?_) | refine Br.d (fun h => ?_) (fun h => ?_) | refine Br.nd (fun h => ?_) (fun h => ?_) | refine Br.e (fun h => ?_) (fun h => ?_) | refine Br.ne (fun h => ?_) (fun h => ?_) | refine Br.nne (fun h => ?_) (fun h => ?_) | refine Br.se (fun h => ?_) (fun h => ?_) | refine Br.mk (fun h => ?_) (fun h => ?_))
  · have e : readD st k = ([], 5) := if_pos h
    rw [e]; exact ⟨⟨none, 0, 0⟩, rfl, Own.nil (RO.shut hE hw)⟩
  have hoff := h
  (first | with_reducible refine Br.d (fun h => ?_) (fun h => ?_) | with_reducible refine Br.nd (fun h => ?_) (fun h => ?_) | with_reducible refine Br.e (fun h => ?_) (fun h => ?_) | with_reducible refine Br.ne (fun h => ?_) (fun h => ?_) | with_reducible refine Br.nne (fun h => ?_) (fun h => ?_) | with_reducible refine Br.se (fun h => ?_) (fun h => ?_) | with_reducible refine Br.sne (fun h => ?_) (fun h => ?_) | with_reducible refine Br.nb (fun h => ?_) (fun h => ?_) | with_reducible refine Br.mk (fun h => ?_) (fun h => ?_) | refine Br.d (fun h => ?_) (fun h => ?_) | refine Br.nd (fun h => ?_) (fun h => ?_) | refine Br.e (fun h => ?_) (fun h => ?_) | refine Br.ne (fun h => ?_) (fun h => ?_) | refine Br.nne (fun h => ?_) (fun h => ?_) | refine Br.se (fun h => ?_) (fun h => ?_) | refine Br.mk (fun h => ?_) (fun h => ?_))
  · have e : readD st k = ([], 1) := by unfold readD; rw [if_neg (by simp [hoff]), if_pos (by simp [h])]
    rw [e]; exact ⟨⟨none, 0, 0⟩, rfl, Own.nil (RO.shut hE hw)⟩
  have e : readD st k = match getM k st.fs with | none => ([], 2) | some f => (f.b, 0) := by unfold readD; rw [if_neg (by simp [hoff]), if_neg (by simp [h])]; cases getM k st.fs <;> rfl
  refine (place_spec k hE (by rw [← erR_len, hE]; exact hn) hw).use ?_
  rintro _ w ⟨rfl, hw⟩
  refine ⟨_, rfl, ?_⟩
  cases hg : getM k st.fs with
  | none =>
    rw [placeD_none hg, e, hg]
    exact Br.t (by decide) ⟨⟨none, 0, 0⟩, rfl, Own.nil (RO.shut hE hw)⟩
  | some f =>
    obtain ⟨a, sb, b, rfl, ha, hfs, hp⟩ := find_ref hE hg
    have hft := total_le hg
    rw [hp, e, hg]
    have hlt : a.length < (a ++ (k, sb, f) :: b).length := by simp
    refine Br.f (by simp) (new_rule hw fun b1 w hw => ?_)
    repeat (first | refine NilP.mk rfl ?_ | refine ⟨_, At.own selfS (by exact ⟨rfl, trivial⟩), ?_⟩ | refine ⟨_, At.own (eqS hw) (by exact ⟨rfl, trivial⟩), ?_⟩ | refine ⟨_, (by rw [add_off]; exact At.own selfS (by exact ⟨rfl, trivial⟩)), ?_⟩ | refine ⟨_, (by rw [add_off]; exact At.own (eqS hw) (by exact ⟨rfl, trivial⟩)), ?_⟩)
    have hr : ReadsN 3 s ((a ++ (k, sb, f) :: b).map rowR) (fun w' => w' = w) := OwnN.readsM (rows := (a ++ (k, sb, f) :: b).map rowR) (T := 104) hw (eqS hw)
    refine hr.rngM hlt fun ad hadr el => ?_
    rw [getElem_mid hlt] at el
    refine ⟨_, el.f 1 (by exact ⟨rfl, trivial⟩), ?_⟩
    simp only
    have hw := (Bufs.split (a := a) (b := b) (e := (k, sb, f))).1 (hw.take (BufsAt (a ++ (k, sb, f) :: b)))
    simp only at hw
    obtain ⟨R', hr2, _, hwl, back⟩ := Own.lend hw (by rw [List.length_map]; omega)
    have hsrc : Src Tryz.prog 1 25 (.slice sb.a sb.len sb.cap) f.b.length (b8 f.b) w := by
      have := srcRo Tryz.underlying25 hwl hr2 (one_b8 f.b)
      simpa using this
    refine append0_rule elB8 hwl hsrc (by omega) (by omega) fun s2 w hw => ⟨s2, rfl, ?_⟩
    have hw := (back hw).swap
    exact hw.cons fun _ h => RO.shut (s := s) hE ((Bufs.split (a := a) (b := b) (e := (k, sb, f))).2 h).arr

def renameGR (k to : ByteArray) (st : DS) : DS × Int :=
  match getM k st.fs with
  | some f => if k = to then (st, 0) else ({ st with fs := insM (to, f) (delM to (delM k st.fs)) }, 0)
  | none => (st, 2)
def renameR (st : DS) (k to : ByteArray) : DS × Int := doing st (nameOk k && nameOk to) (renameGR k to)

theorem renameR_spec {r : Nat} {st : DS} {k to : ByteArray} (i : Inv st) (hn : st.fs.length ≤ 1000000) (hk : k.size ≤ 9223372036854775807) (hk2 : to.size ≤ 9223372036854775807) (hw : Sat R (RefAt r st :: Hs) w) :
    Gets Tryz.prog 101 #[.pointer (some ⟨r, 0, none⟩), .string k, .string to] w fun v w' => v = .int .i64 (renameR st k to).2 ∧ Sat R (RefAt r (renameR st k to).1 :: Hs) w' := by
  apply call101
  refine (changeR_spec i.toCounts hk hk2 hw).use ?_
  rintro _ w ⟨rfl, hw⟩
  refine ⟨_, rfl, ?_⟩
  (first | with_reducible refine Br.d (fun h => ?_) (fun h => ?_) | with_reducible refine Br.nd (fun h => ?_) (fun h => ?_) | with_reducible refine Br.e (fun h => ?_) (fun h => ?_) | with_reducible refine Br.ne (fun h => ?_) (fun h => ?_) | with_reducible refine Br.nne (fun h => ?_) (fun h => ?_) | with_reducible refine Br.se (fun h => ?_) (fun h => ?_) | with_reducible refine Br.sne (fun h => ?_) (fun h => ?_) | with_reducible refine Br.nb (fun h => ?_) (fun h => ?_) | with_reducible refine Br.mk (fun h => ?_) (fun h => ?_) | refine Br.d (fun h => ?_) (fun h => ?_) | refine Br.nd (fun h => ?_) (fun h => ?_) | refine Br.e (fun h => ?_) (fun h => ?_) | refine Br.ne (fun h => ?_) (fun h => ?_) | refine Br.nne (fun h => ?_) (fun h => ?_) | refine Br.se (fun h => ?_) (fun h => ?_) | refine Br.mk (fun h => ?_) (fun h => ?_))
  · have e : renameR st k to = chg st (nameOk k && nameOk to) := if_neg h
    rw [e]; exact ⟨rfl, hw⟩
  have e : renameR st k to = renameGR k to (chg st (nameOk k && nameOk to)).1 := if_pos h
  rw [e]
  have hn2 : (chg st (nameOk k && nameOk to)).1.fs.length ≤ 1000000 := by rw [(chg_fs st _).1]; exact hn
  generalize (chg st (nameOk k && nameOk to)).1 = st2 at *
  clear e i hn
  obtain ⟨s, E, hE, hw⟩ := Sat.ref.1 hw
  refine (place_spec k hE (by rw [← erR_len, hE]; exact hn2) hw).use ?_
  rintro _ w ⟨rfl, hw⟩
  refine ⟨_, rfl, ?_⟩
  cases hg : getM k st2.fs with
  | none =>
    rw [placeD_none hg]
    have e : renameGR k to st2 = (st2, 2) := by unfold renameGR; rw [hg]
    rw [e]
    exact Br.t (by decide) ⟨rfl, RO.shut hE hw⟩
  | some f =>
    obtain ⟨a, sb, b, rfl, ha, hfs, hp⟩ := find_ref hE hg
    rw [hp]
    refine Br.f (by simp) ?_
    (first | with_reducible refine Br.d (fun h => ?_) (fun h => ?_) | with_reducible refine Br.nd (fun h => ?_) (fun h => ?_) | with_reducible refine Br.e (fun h => ?_) (fun h => ?_) | with_reducible refine Br.ne (fun h => ?_) (fun h => ?_) | with_reducible refine Br.nne (fun h => ?_) (fun h => ?_) | with_reducible refine Br.se (fun h => ?_) (fun h => ?_) | with_reducible refine Br.sne (fun h => ?_) (fun h => ?_) | with_reducible refine Br.nb (fun h => ?_) (fun h => ?_) | with_reducible refine Br.mk (fun h => ?_) (fun h => ?_) | refine Br.d (fun h => ?_) (fun h => ?_) | refine Br.nd (fun h => ?_) (fun h => ?_) | refine Br.e (fun h => ?_) (fun h => ?_) | refine Br.ne (fun h => ?_) (fun h => ?_) | refine Br.nne (fun h => ?_) (fun h => ?_) | refine Br.se (fun h => ?_) (fun h => ?_) | refine Br.mk (fun h => ?_) (fun h => ?_))
    · have e : renameGR k to st2 = (st2, 0) := by unfold renameGR; rw [hg]; exact if_pos h
      rw [e]; exact ⟨rfl, RO.shut hE hw⟩
    have e : renameGR k to st2 = ({ st2 with fs := insM (to, f) (delM to (delM k st2.fs)) }, 0) := by unfold renameGR; rw [hg]; exact if_neg h
    rw [e]
    have hlt : a.length < (a ++ (k, sb, f) :: b).length := by simp
    have hll : (a ++ b).length ≤ 1000000 := by have : (a ++ (k, sb, f) :: b).length ≤ 1000000 := by { rw [← erR_len, hE]; exact hn2 }; simp at this ⊢; omega
    repeat (first | refine NilP.mk rfl ?_ | refine ⟨_, At.own selfS (by exact ⟨rfl, trivial⟩), ?_⟩ | refine ⟨_, At.own (eqS hw) (by exact ⟨rfl, trivial⟩), ?_⟩ | refine ⟨_, (by rw [add_off]; exact At.own selfS (by exact ⟨rfl, trivial⟩)), ?_⟩ | refine ⟨_, (by rw [add_off]; exact At.own (eqS hw) (by exact ⟨rfl, trivial⟩)), ?_⟩)
    refine (RO.reads hw (eqS hw)).rngM hlt fun ad hadr el => ?_
    rw [getElem_mid hlt] at el
    refine ⟨k, sb, f.sure, el.z (by exact ⟨rfl, rfl, rfl, trivial⟩), new_rule hw fun bf w hw => ?_⟩
    refine store_rule (v := .agg #[.string k, .slice sb.a sb.len sb.cap, .int .i64 f.sure]) hw (by kernel_rfl) rfl (by simp [Value.cells]) fun w hw => ?_
    have hw : Sat R (RO r s (a ++ (k, sb, f) :: b) st2 (pts bf (.cells [.string k, .slice sb.a sb.len sb.cap, .int .i64 f.sure].toArray 104 (0, 0)) :: Hs)) w := by
      have hw : Sat R (pts bf (.cells [.string k, .slice sb.a sb.len sb.cap, .int .i64 f.sure].toArray 104 (0, 0)) :: RO r s (a ++ (k, sb, f) :: b) st2 Hs) w := hw
      exact hw.arr
    refine (outR_spec hE (by rw [← erR_len, hE]; exact hn2) hw).use ?_
    rintro _ w ⟨rfl, hw⟩
    refine ⟨rfl, ?_⟩
    have ed : erR (a ++ b) = delM k st2.fs := by rw [hfs, delM_app ha (ba_rfl k), erR_app]
    rw [ed] at hw
    obtain ⟨s2, E2, hE2, hw⟩ := Sat.ref.1 hw.swap
    simp only at hE2 hw
    have hl2 : E2.length ≤ 1000000 := by rw [← erR_len, hE2, ← ed, erR_len]; exact hll
    refine (place_spec to hE2 hl2 hw).use ?_
    rintro _ w ⟨rfl, hw⟩
    refine ⟨_, rfl, ?_⟩
    simp only
    have fin : ∀ {w} {s : Sl} {E : List RE} {R}, erR E = delM to (delM k st2.fs) → E.length ≤ 1000000 → Sat R (RO r s E { st2 with fs := delM to (delM k st2.fs) } (Own sb 5 (b8 f.b) :: pts bf (.cells [.string to, .slice sb.a sb.len sb.cap, .int .i64 f.sure].toArray 104 (0, 0)) :: Hs)) w →
        ∃ t47 : ByteArray, ∃ t47_1 : Sl, ∃ t47_2 : Int, (At (fun w' => w' = w) ⟨bf, 0, none⟩ [.string t47, .slice t47_1.a t47_1.len t47_1.cap, .int .i64 t47_2]) ∧
          Calls Tryz.prog 69 #[.pointer (some ⟨r, 0, none⟩), .agg #[.string t47, .slice t47_1.a t47_1.len t47_1.cap, .int .i64 t47_2]] w fun e_5 w_9 =>
          (e_5 = .returned (.tuple #[])) ∧ (True ∧ Sat R (RefAt r { st2 with fs := insM (to, f) (delM to (delM k st2.fs)) } :: Hs) w_9) := fun {w s E R} hE hl hw => by
      refine ⟨to, sb, f.sure, At.own (eqS hw) (by exact ⟨rfl, rfl, rfl, trivial⟩), ?_⟩
      refine (putR_spec (k := to) (f := f) hE hl hw).use ?_
      rintro _ w ⟨rfl, hw⟩
      exact ⟨rfl, trivial, hw.swap.drop⟩
    cases hg2 : getM to (delM k st2.fs) with
    | none =>
      rw [placeD_none hg2]
      refine Br.f (by decide) ?_
      have hw := hw.take (pts bf (.cells [.string k, .slice sb.a sb.len sb.cap, .int .i64 f.sure].toArray 104 (0, 0)))
      refine store_rule hw (by kernel_rfl) rfl (by simp [Value.cells, putL_len]) fun w hw => ?_
      have hw : Sat R (RO r s2 E2 { st2 with fs := delM to (delM k st2.fs) } (Own sb 5 (b8 f.b) :: pts bf (.cells [.string to, .slice sb.a sb.len sb.cap, .int .i64 f.sure].toArray 104 (0, 0)) :: Hs)) w := by
        have hw : Sat R (pts bf (.cells [.string to, .slice sb.a sb.len sb.cap, .int .i64 f.sure].toArray 104 (0, 0)) :: RO r s2 E2 st2 (Own sb 5 (b8 f.b) :: Hs)) w := hw
        exact hw.arr
      exact fin (by rw [hE2, delM_none hg2]) hl2 hw
    | some f2 =>
      obtain ⟨a2, sb2, b2, rfl, ha2, hfs2, hp2⟩ := find_ref hE2 hg2
      rw [hp2]
      refine Br.t (by simp) ?_
      refine (outR_spec hE2 hl2 hw).use ?_
      rintro _ w ⟨rfl, hw⟩
      refine ⟨rfl, ?_⟩
      have ed2 : erR (a2 ++ b2) = delM to (delM k st2.fs) := by rw [hfs2, delM_app ha2 (ba_rfl to), erR_app]
      rw [ed2] at hw
      obtain ⟨s3, E3, hE3, hw⟩ := Sat.ref.1 hw.drop
      simp only at hE3 hw
      have hl3 : E3.length ≤ 1000000 := by rw [← erR_len, hE3, ← ed2, erR_len]; simp at hl2 ⊢; omega
      have hw := hw.take (pts bf (.cells [.string k, .slice sb.a sb.len sb.cap, .int .i64 f.sure].toArray 104 (0, 0)))
      refine store_rule hw (by kernel_rfl) rfl (by simp [Value.cells, putL_len]) fun w hw => ?_
      have hw : Sat R (RO r s3 E3 { st2 with fs := delM to (delM k st2.fs) } (Own sb 5 (b8 f.b) :: pts bf (.cells [.string to, .slice sb.a sb.len sb.cap, .int .i64 f.sure].toArray 104 (0, 0)) :: Hs)) w := by
        have hw : Sat R (pts bf (.cells [.string to, .slice sb.a sb.len sb.cap, .int .i64 f.sure].toArray 104 (0, 0)) :: RO r s3 E3 st2 (Own sb 5 (b8 f.b) :: Hs)) w := hw
        exact hw.arr
      exact fin hE3 hl3 hw

/-! ### Crash -/
def crashP (fs : Fs) (keep : List Int) : Fs := fs.mapIdx fun i e => (e.1, cutF keep[i]? e.2)
def crashR (st : DS) (keep : List Int) : DS := ⟨st.room, crashP st.fs keep, -1, -1, false⟩

theorem crashR_spec {r : Nat} {st : DS} {s : Sl} {keep : List Int} (i : Inv st) (hs : RoI R s keep) (hn : st.fs.length ≤ 1000000) (hw : Sat R (RefAt r st :: Hs) w) :
    Gets Tryz.prog 29 #[.pointer (some ⟨r, 0, none⟩), .slice s.a s.len s.cap] w fun v w' => v = .tuple #[] ∧ Sat R (RefAt r (crashR st keep) :: Hs) w' := by
  have r1 := i.r1
  have hfull := i.full
  have hsl := hs.len
  have hsb := hs.bound
  apply call29
  obtain ⟨sL, E, hE, hw⟩ := Sat.ref.1 hw
  have hfl : st.fs.length = E.length := by rw [← hE, erR_len]
  refine ⟨fun x w => ∃ a b : List RE, x = (a.length : Nat) ∧ (a ++ b).length = st.fs.length ∧ erR b = st.fs.drop a.length ∧ erR a = (crashP st.fs keep).take a.length ∧ Sat R (RO r sL (a ++ b) st Hs) w,
    fun x _ => st.fs.length - x.toNat, ⟨[], E, rfl, by simp [hfl], by simpa using hE, rfl, hw⟩, ?_⟩
  rintro z _ w ⟨a, b, rfl, hlen, hb, ha, hw⟩
  have hsL := RO.len hw
  rw [List.length_append] at hlen
  repeat (first | refine NilP.mk rfl ?_ | refine ⟨_, At.own selfS (by exact ⟨rfl, trivial⟩), ?_⟩ | refine ⟨_, At.own (eqS hw) (by exact ⟨rfl, trivial⟩), ?_⟩ | refine ⟨_, (by rw [add_off]; exact At.own selfS (by exact ⟨rfl, trivial⟩)), ?_⟩ | refine ⟨_, (by rw [add_off]; exact At.own (eqS hw) (by exact ⟨rfl, trivial⟩)), ?_⟩)
  (first | with_reducible refine Br.d (fun h => ?_) (fun h => ?_) | with_reducible refine Br.nd (fun h => ?_) (fun h => ?_) | with_reducible refine Br.e (fun h => ?_) (fun h => ?_) | with_reducible refine Br.ne (fun h => ?_) (fun h => ?_) | with_reducible refine Br.nne (fun h => ?_) (fun h => ?_) | with_reducible refine Br.se (fun h => ?_) (fun h => ?_) | with_reducible refine Br.sne (fun h => ?_) (fun h => ?_) | with_reducible refine Br.nb (fun h => ?_) (fun h => ?_) | with_reducible refine Br.mk (fun h => ?_) (fun h => ?_) | refine Br.d (fun h => ?_) (fun h => ?_) | refine Br.nd (fun h => ?_) (fun h => ?_) | refine Br.e (fun h => ?_) (fun h => ?_) | refine Br.ne (fun h => ?_) (fun h => ?_) | refine Br.nne (fun h => ?_) (fun h => ?_) | refine Br.se (fun h => ?_) (fun h => ?_) | refine Br.mk (fun h => ?_) (fun h => ?_))
  · cases b with
    | nil => simp at hsL hlen; omega
    | cons e b =>
    obtain ⟨k, sb, f⟩ := e
    simp only [List.length_cons] at hlen
    have hlt : a.length < (a ++ (k, sb, f) :: b).length := by simp
    have hj : a.length < st.fs.length := by omega
    rw [drop_get hj, erR_cons] at hb
    have hb1 : st.fs[a.length] = (k, f) := (List.cons.inj hb).1.symm
    have hb2 := (List.cons.inj hb).2
    have hmem : (k, f) ∈ st.fs := by rw [← hb1]; exact List.getElem_mem _
    have hsf : f.sure ≤ f.b.length := i.sure _ hmem
    have hfl2 : (f.b.length : Int) ≤ total st.fs := by
      obtain ⟨x, y, hxy⟩ := List.append_of_mem hmem
      have := total_one (k := k) (f := f) x y
      have := total_nn (x ++ y)
      rw [hxy]; omega
    have hbl := RO.blen hw
    simp only at hbl
    obtain ⟨hbl1, hbl2⟩ := hbl
    refine ⟨fun n w => n = (stay keep[a.length]? f : Nat) ∧ Sat R (RO r sL (a ++ (k, sb, f) :: b) st Hs) w, ?_, ?_⟩
    · (first | with_reducible refine Br.d (fun h => ?_) (fun h => ?_) | with_reducible refine Br.nd (fun h => ?_) (fun h => ?_) | with_reducible refine Br.e (fun h => ?_) (fun h => ?_) | with_reducible refine Br.ne (fun h => ?_) (fun h => ?_) | with_reducible refine Br.nne (fun h => ?_) (fun h => ?_) | with_reducible refine Br.se (fun h => ?_) (fun h => ?_) | with_reducible refine Br.sne (fun h => ?_) (fun h => ?_) | with_reducible refine Br.nb (fun h => ?_) (fun h => ?_) | with_reducible refine Br.mk (fun h => ?_) (fun h => ?_) | refine Br.d (fun h => ?_) (fun h => ?_) | refine Br.nd (fun h => ?_) (fun h => ?_) | refine Br.e (fun h => ?_) (fun h => ?_) | refine Br.ne (fun h => ?_) (fun h => ?_) | refine Br.nne (fun h => ?_) (fun h => ?_) | refine Br.se (fun h => ?_) (fun h => ?_) | refine Br.mk (fun h => ?_) (fun h => ?_))
      · have hk2 : a.length < keep.length := by omega
        refine drw_rule hw fun w hw => ?_
        have hr : ReadsN 3 sL ((a ++ (k, sb, f) :: b).map rowR) (Sat R (RO r sL (a ++ (k, sb, f) :: b) st Hs)) := RO.reads hw selfS
        refine hs.idx selfS hk2 ?_
        repeat (first | refine NilP.mk rfl ?_ | refine ⟨_, At.own selfS (by exact ⟨rfl, trivial⟩), ?_⟩ | refine ⟨_, At.own (eqS hw) (by exact ⟨rfl, trivial⟩), ?_⟩ | refine ⟨_, (by rw [add_off]; exact At.own selfS (by exact ⟨rfl, trivial⟩)), ?_⟩ | refine ⟨_, (by rw [add_off]; exact At.own (eqS hw) (by exact ⟨rfl, trivial⟩)), ?_⟩)
        refine hr.rngM hlt fun ad hadr el => ?_
        rw [getElem_mid hlt] at el
        refine ⟨_, el.f 1 (by exact ⟨rfl, trivial⟩), ?_⟩
        repeat (first | refine NilP.mk rfl ?_ | refine ⟨_, At.own selfS (by exact ⟨rfl, trivial⟩), ?_⟩ | refine ⟨_, At.own (eqS hw) (by exact ⟨rfl, trivial⟩), ?_⟩ | refine ⟨_, (by rw [add_off]; exact At.own selfS (by exact ⟨rfl, trivial⟩)), ?_⟩ | refine ⟨_, (by rw [add_off]; exact At.own (eqS hw) (by exact ⟨rfl, trivial⟩)), ?_⟩)
        refine hr.rngM hlt fun ad hadr el => ?_
        rw [getElem_mid hlt] at el
        refine ⟨_, el.f 2 (by exact ⟨rfl, trivial⟩), ?_, hw⟩
        simp only
        rw [wrap64 (by omega) (by omega), List.getElem?_eq_getElem hk2]
        simp only [stay]
        generalize keep[a.length] = x
        rw [hbl1]
        split <;> split <;> omega
      · refine ⟨?_, hw⟩
        rw [List.getElem?_eq_none (by omega)]; rfl
    rintro z n w ⟨rfl, hw⟩
    have hst := stay_le keep[a.length]? f hsf
    generalize hnn : stay keep[a.length]? f = n at hst
    have hgt : cutF keep[a.length]? f = ⟨f.b.take (f.sure + n), f.sure + n⟩ := by unfold cutF; rw [hnn]
    refine drw_rule hw fun w hw => ?_
    have hr : ReadsN 3 sL ((a ++ (k, sb, f) :: b).map rowR) (Sat R (RO r sL (a ++ (k, sb, f) :: b) st Hs)) := RO.reads hw selfS
    repeat (first | refine NilP.mk rfl ?_ | refine ⟨_, At.own selfS (by exact ⟨rfl, trivial⟩), ?_⟩ | refine ⟨_, At.own (eqS hw) (by exact ⟨rfl, trivial⟩), ?_⟩ | refine ⟨_, (by rw [add_off]; exact At.own selfS (by exact ⟨rfl, trivial⟩)), ?_⟩ | refine ⟨_, (by rw [add_off]; exact At.own (eqS hw) (by exact ⟨rfl, trivial⟩)), ?_⟩)
    refine hr.rngM hlt fun ad hadr el => ?_
    rw [getElem_mid hlt] at el
    refine ⟨_, el.f 1 (by exact ⟨rfl, trivial⟩), ?_⟩
    repeat (first | refine NilP.mk rfl ?_ | refine ⟨_, At.own selfS (by exact ⟨rfl, trivial⟩), ?_⟩ | refine ⟨_, At.own (eqS hw) (by exact ⟨rfl, trivial⟩), ?_⟩ | refine ⟨_, (by rw [add_off]; exact At.own selfS (by exact ⟨rfl, trivial⟩)), ?_⟩ | refine ⟨_, (by rw [add_off]; exact At.own (eqS hw) (by exact ⟨rfl, trivial⟩)), ?_⟩)
    refine hr.rngM hlt fun ad hadr el => ?_
    rw [getElem_mid hlt] at el
    refine ⟨_, el.f 2 (by exact ⟨rfl, trivial⟩), ?_⟩
    simp only
    rw [wrap64 (by omega) (by omega)]
    refine ⟨by omega, by omega, ?_⟩
    rw [show ((f.sure : Int) + n).toNat = f.sure + n by omega]
    refine hr.rngM hlt fun ad hadr el => ?_
    refine OwnN.storeM (E := a ++ (k, sb, f) :: b) (g := rowR) (T := 104) (v := .slice sb.a (f.sure + n) sb.cap) 1 (k, ⟨sb.a, f.sure + n, sb.cap⟩, f) hw hadr hlt (by kernel_rfl) rfl (by simp [Value.cells]) (by rw [getElem_mid hlt]; rfl) fun w hw => ?_
    rw [set_mid] at hw
    refine drw_rule hw fun w hw => ?_
    have hr : ReadsN 3 sL ((a ++ (k, ⟨sb.a, f.sure + n, sb.cap⟩, f) :: b).map rowR) (Sat R (OwnN 3 sL 104 ((a ++ (k, ⟨sb.a, f.sure + n, sb.cap⟩, f) :: b).map rowR) :: pts r (rCells st sL) :: BufsAt (a ++ (k, sb, f) :: b) :: Hs)) :=
      OwnN.readsM (rows := (a ++ (k, ⟨sb.a, f.sure + n, sb.cap⟩, f) :: b).map rowR) (T := 104) hw selfS
    have hlt : a.length < (a ++ (k, (⟨sb.a, f.sure + n, sb.cap⟩ : Sl), f) :: b).length := by simp
    repeat (first | refine NilP.mk rfl ?_ | refine ⟨_, At.own selfS (by exact ⟨rfl, trivial⟩), ?_⟩ | refine ⟨_, At.own (eqS hw) (by exact ⟨rfl, trivial⟩), ?_⟩ | refine ⟨_, (by rw [add_off]; exact At.own selfS (by exact ⟨rfl, trivial⟩)), ?_⟩ | refine ⟨_, (by rw [add_off]; exact At.own (eqS hw) (by exact ⟨rfl, trivial⟩)), ?_⟩)
    refine hr.rngM hlt fun ad hadr el => ?_
    rw [getElem_mid hlt] at el
    refine ⟨⟨sb.a, f.sure + n, sb.cap⟩, el.f 1 (by exact ⟨rfl, trivial⟩), ?_⟩
    refine hr.rngM hlt fun ad hadr el => ?_
    simp only
    refine OwnN.storeM (E := a ++ (k, ⟨sb.a, f.sure + n, sb.cap⟩, f) :: b) (g := rowR) (T := 104) 2 (k, ⟨sb.a, f.sure + n, sb.cap⟩, cutF keep[a.length]? f) hw hadr hlt (by kernel_rfl) rfl (by simp [Value.cells]) (by rw [getElem_mid hlt, hgt]; rfl) fun w hw => ?_
    rw [set_mid, wrap64 (by omega) (by omega)] at *
    have hw := (Bufs.split (a := a) (b := b) (e := (k, sb, f))).1 (hw.take (BufsAt (a ++ (k, sb, f) :: b)))
    have hw := Own.short hw (n := f.sure + n) (by simpa using hst)
    have hw : Sat R (Own ⟨sb.a, f.sure + n, sb.cap⟩ 5 (b8 (cutF keep[a.length]? f).b) :: BufsAt (a ++ b) :: OwnN 3 sL 104 ((a ++ (k, ⟨sb.a, f.sure + n, sb.cap⟩, cutF keep[a.length]? f) :: b).map rowR) :: pts r (rCells st sL) :: Hs) w := by
      rw [show b8 (cutF keep[a.length]? f).b = (b8 f.b).take (f.sure + n) by rw [hgt]; exact List.map_take]
      exact hw
    have hw := (Bufs.split (a := a) (b := b) (e := (k, ⟨sb.a, f.sure + n, sb.cap⟩, cutF keep[a.length]? f))).2 hw
    have e1 : a ++ (k, (⟨sb.a, f.sure + n, sb.cap⟩ : Sl), cutF keep[a.length]? f) :: b = (a ++ [(k, ⟨sb.a, f.sure + n, sb.cap⟩, cutF keep[a.length]? f)]) ++ b := by simp
    have hwf : Sat R (RO r sL (a ++ (k, ⟨sb.a, f.sure + n, sb.cap⟩, cutF keep[a.length]? f) :: b) st Hs) w := hw.arr
    rw [e1] at hwf
    refine ⟨⟨_, b, ?_, ?_, ?_, ?_, hwf⟩, by omega⟩
    · simp
    · simp; omega
    · simpa using hb2
    · have hlc : a.length < (crashP st.fs keep).length := by simp [crashP]; exact hj
      rw [erR_app, ha]
      have : (a ++ [(k, (⟨sb.a, f.sure + n, sb.cap⟩ : Sl), cutF keep[a.length]? f)]).length = a.length + 1 := by simp
      rw [this, List.take_succ_eq_append_getElem hlc]
      congr 1
      simp [crashP, hb1, erR]
  · have hb0 : b = [] := by
      rw [List.length_append] at hsL
      exact List.length_eq_zero_iff.1 (by omega)
    subst hb0
    repeat (first | refine NilP.mk rfl ?_ | refine ⟨_, At.own selfS (by exact ⟨rfl, trivial⟩), ?_⟩ | refine ⟨_, At.own (eqS hw) (by exact ⟨rfl, trivial⟩), ?_⟩ | refine ⟨_, (by rw [add_off]; exact At.own selfS (by exact ⟨rfl, trivial⟩)), ?_⟩ | refine ⟨_, (by rw [add_off]; exact At.own (eqS hw) (by exact ⟨rfl, trivial⟩)), ?_⟩)
    refine store_rule hw (by kernel_rfl) rfl (by simp [Value.cells, putL_len]) fun w hw => ?_
    repeat (first | refine NilP.mk rfl ?_ | refine ⟨_, At.own selfS (by exact ⟨rfl, trivial⟩), ?_⟩ | refine ⟨_, At.own (eqS hw) (by exact ⟨rfl, trivial⟩), ?_⟩ | refine ⟨_, (by rw [add_off]; exact At.own selfS (by exact ⟨rfl, trivial⟩)), ?_⟩ | refine ⟨_, (by rw [add_off]; exact At.own (eqS hw) (by exact ⟨rfl, trivial⟩)), ?_⟩)
    refine store_rule hw (by kernel_rfl) rfl (by simp [Value.cells, putL_len]) fun w hw => ?_
    repeat (first | refine NilP.mk rfl ?_ | refine ⟨_, At.own selfS (by exact ⟨rfl, trivial⟩), ?_⟩ | refine ⟨_, At.own (eqS hw) (by exact ⟨rfl, trivial⟩), ?_⟩ | refine ⟨_, (by rw [add_off]; exact At.own selfS (by exact ⟨rfl, trivial⟩)), ?_⟩ | refine ⟨_, (by rw [add_off]; exact At.own (eqS hw) (by exact ⟨rfl, trivial⟩)), ?_⟩)
    refine store_rule hw (by kernel_rfl) rfl (by simp [Value.cells, putL_len]) fun w hw => ?_
    refine ⟨rfl, RO.shut (s := sL) (E := a ++ []) ?_ (st := crashR st keep) hw⟩
    rw [List.append_nil, ha]
    show _ = crashP st.fs keep
    rw [List.take_of_length_le]
    simp at hlen
    simp [crashP]; omega

end Go.Proofs.YtgfneeoponiibaaGreat
/- The disk and its reference are alike: the plain law. No program. Condition: none. -/
namespace Go.Proofs.YtgfneeoponiibaaGreat
open Go Go.VC

def Srt (fs : Fs) : Prop := fs.Pairwise fun x y => x.1.data.toList < y.1.data.toList

theorem ltB_eq (a b : ByteArray) : ltB a b = decide (a.data.toList < b.data.toList) := by
  unfold ltB; rw [ByteArray.toList_eq, ByteArray.toList_eq, Proofs.bytesLess_eq]

/-! ### Of lists that are the same but for the order -/
theorem uni_perm {a b : Fs} (h : a.Perm b) (u : Uni a) : Uni b := (h.map _).nodup_iff.1 u
theorem getM_perm {a b : Fs} (h : a.Perm b) (u : Uni a) (k : ByteArray) : getM k a = getM k b := by
  have key : ∀ {l : Fs} {f : Fl}, Uni l → (getM k l = some f ↔ (k, f) ∈ l) := fun {l f} u => by
    constructor
    · intro hg
      obtain ⟨a, b, rfl, _⟩ := getM_split hg
      simp
    · intro hm
      obtain ⟨a, b, rfl⟩ := List.append_of_mem hm
      refine getM_app (getM_of_notin ?_) (ba_rfl k)
      unfold Uni at u
      rw [List.map_append, List.nodup_append] at u
      intro hk
      exact u.2.2 k hk k (by simp) rfl
  cases hb : getM k b with
  | some f => exact (key u).2 (h.mem_iff.2 ((key (uni_perm h u)).1 hb))
  | none =>
    cases ha : getM k a with
    | none => rfl
    | some f => rw [(key (uni_perm h u)).2 (h.mem_iff.1 ((key u).1 ha))] at hb; cases hb

theorem updM_eq_map {k : ByteArray} {g : Fl → Fl} : ∀ {l : Fs}, Uni l → updM k g l = l.map fun e => if k == e.1 then (e.1, g e.2) else e
  | [], _ => rfl
  | e :: l, u => by
    unfold Uni at u
    rw [List.map_cons, List.nodup_cons] at u
    rw [updM, List.map_cons]
    by_cases h : (k == e.1) = true
    · rw [if_pos h, if_pos h]
      congr 1
      have e1 := (MapKept.bytes_beq _ _).1 h
      have : ∀ x ∈ l, (if k == x.1 then (x.1, g x.2) else x) = x := fun x hx => by
        rw [if_neg]
        intro h2
        have := (MapKept.bytes_beq _ _).1 h2
        exact u.1 (by rw [← e1, this]; exact List.mem_map_of_mem hx)
      rw [List.map_congr_left this]; simp
    · rw [if_neg h, if_neg h, updM_eq_map (l := l) u.2]
theorem updM_perm {a b : Fs} (h : a.Perm b) (u : Uni a) (k : ByteArray) (g : Fl → Fl) : (updM k g a).Perm (updM k g b) := by
  rw [updM_eq_map u, updM_eq_map (uni_perm h u)]; exact h.map _
theorem delM_eq_filter {k : ByteArray} : ∀ {l : Fs}, Uni l → delM k l = l.filter fun e => !(k == e.1)
  | [], _ => rfl
  | e :: l, u => by
    unfold Uni at u
    rw [List.map_cons, List.nodup_cons] at u
    rw [delM]
    by_cases h : (k == e.1) = true
    · rw [if_pos h, List.filter_cons_of_neg (by simp [h])]
      have e1 := (MapKept.bytes_beq _ _).1 h
      symm
      rw [List.filter_eq_self]
      intro x hx
      simp only [Bool.not_eq_true']
      cases h2 : (k == x.1)
      · rfl
      · have := (MapKept.bytes_beq _ _).1 h2
        exact absurd (by rw [← e1, this]; exact List.mem_map_of_mem hx) u.1
    · rw [if_neg h, List.filter_cons_of_pos (by simp [h]), delM_eq_filter (l := l) u.2]
theorem delM_perm {a b : Fs} (h : a.Perm b) (u : Uni a) (k : ByteArray) : (delM k a).Perm (delM k b) := by
  rw [delM_eq_filter u, delM_eq_filter (uni_perm h u)]; exact h.filter _

/-! ### Sorted -/
theorem srt_sub {a b : Fs} (h : a.Sublist b) (s : Srt b) : Srt a := s.sublist h
theorem srt_keys {a b : Fs} (h : a.map (·.1) = b.map (·.1)) (s : Srt b) : Srt a := by
  have h1 : (b.map (·.1)).Pairwise fun x y : ByteArray => x.data.toList < y.data.toList := List.pairwise_map.2 s
  rw [← h] at h1
  unfold Srt
  exact (List.pairwise_map (R := fun x y : ByteArray => x.data.toList < y.data.toList)).1 h1
theorem ltL_trans {a b c : List UInt8} (h1 : a < b) (h2 : b < c) : a < c := List.lt_trans h1 h2
theorem ba_ext {a b : ByteArray} (h : a.data.toList = b.data.toList) : a = b := by
  cases a; cases b; simp only at h; congr 1; exact Array.ext' h
theorem insM_srt {k : ByteArray} {f : Fl} : ∀ {l : Fs}, Srt l → k ∉ l.map (·.1) → Srt (insM (k, f) l)
  | [], _, _ => by simp [insM, Srt]
  | e :: l, s, hk => by
    unfold Srt at s
    rw [List.pairwise_cons] at s
    rw [List.map_cons, List.mem_cons, not_or] at hk
    by_cases h : ltB e.1 k = true
    · have e1 : insM (k, f) (e :: l) = e :: insM (k, f) l := by
        unfold insM
        simp only [atM, if_pos h, List.take_succ_cons, List.drop_succ_cons, List.cons_append]
      rw [e1]
      refine List.pairwise_cons.2 ⟨fun x hx => ?_, insM_srt s.2 hk.2⟩
      rw [(insM_perm (k, f) l).mem_iff] at hx
      rcases List.mem_cons.1 hx with rfl | hx
      · rw [ltB_eq] at h; exact of_decide_eq_true h
      · exact s.1 x hx
    · have e1 : insM (k, f) (e :: l) = (k, f) :: e :: l := by
        unfold insM
        simp only [atM, if_neg h, List.take_zero, List.drop_zero, List.nil_append]
      rw [e1]
      rw [ltB_eq, decide_eq_true_eq] at h
      have hlt : k.data.toList < e.1.data.toList := by
        exact Std.lt_of_le_of_ne h fun h2 => hk.1 (ba_ext h2)
      refine List.pairwise_cons.2 ⟨fun x hx => ?_, List.pairwise_cons.2 s⟩
      rcases List.mem_cons.1 hx with rfl | hx
      · exact hlt
      · exact ltL_trans hlt (s.1 x hx)

theorem names_srt {a b : Fs} (h : a.Perm b) (s : Srt b) : namesOf a = b.map (·.1) := by
  unfold namesOf
  rw [mergeSort_of_perm (h.map _)]
  have hs : (b.map fun e => e.1.data.toList).Pairwise fun x y => (decide (x ≤ y)) = true := by
    rw [List.pairwise_map]
    exact s.imp fun h => by simp only [decide_eq_true_eq]; exact List.le_of_lt h
  rw [List.mergeSort_of_pairwise hs, List.map_map]
  apply List.map_congr_left
  intro e _
  simp

/-! ### Crash -/
theorem crashL_perm : ∀ {ks : List ByteArray} {keep : List Int} {a b : Fs}, a.Perm b → Uni a → (crashL ks keep a).Perm (crashL ks keep b)
  | [], _, _, _, h, _ => h
  | k :: ks, keep, a, b, h, u => by
    rw [crashL, crashL]
    exact crashL_perm (updM_perm h u k _) (uni_upd u)
theorem crashL_app : ∀ {l p : Fs} {keep : List Int}, Uni (p ++ l) → crashL (l.map (·.1)) keep (p ++ l) = p ++ crashP l keep
  | [], p, keep, _ => by simp [crashL, crashP]
  | e :: l, p, keep, u => by
    have hg : getM e.1 p = none := by
      refine getM_of_notin ?_
      unfold Uni at u
      rw [List.map_append, List.nodup_append] at u
      intro hk
      exact u.2.2 _ hk e.1 (by simp) rfl
    have hu2 : Uni ((p ++ [(e.1, cutF keep.head? e.2)]) ++ l) := by
      unfold Uni at *
      have : ((p ++ [(e.1, cutF keep.head? e.2)]) ++ l).map (·.1) = (p ++ e :: l).map (·.1) := by simp
      rw [this]; exact u
    rw [List.map_cons, crashL, show p ++ e :: l = p ++ (e.1, e.2) :: l from rfl, updM_app hg]
    rw [show p ++ (e.1, cutF keep.head? e.2) :: l = (p ++ [(e.1, cutF keep.head? e.2)]) ++ l by simp, crashL_app hu2]
    have : crashP (e :: l) keep = (e.1, cutF keep.head? e.2) :: crashP l keep.tail := by
      unfold crashP
      rw [List.mapIdx_cons]
      congr 1
      · cases keep <;> rfl
      · apply List.ext_getElem?
        intro i
        simp only [List.getElem?_mapIdx]
        congr 1
        funext x
        cases keep <;> simp
    rw [this]; simp

theorem crashL_keys : ∀ (ks : List ByteArray) (keep : List Int) (fs : Fs), (crashL ks keep fs).map (·.1) = fs.map (·.1)
  | [], _, _ => rfl
  | k :: ks, keep, fs => by rw [crashL, crashL_keys, updM_keys]
theorem crashL_sure : ∀ (ks : List ByteArray) (keep : List Int) {fs : Fs}, SureOk fs → SureOk (crashL ks keep fs)
  | [], _, _, h => h
  | k :: ks, keep, fs, h => by
    rw [crashL]
    refine crashL_sure ks _ (sure_upd (fun f hf => ?_) h)
    have := stay_le keep.head? f hf
    show f.sure + stay keep.head? f ≤ (f.b.take (f.sure + stay keep.head? f)).length
    rw [List.length_take]; omega
theorem updM_total_le {k : ByteArray} {g : Fl → Fl} (hg : ∀ f, (g f).b.length ≤ f.b.length) : ∀ fs : Fs, total (updM k g fs) ≤ total fs
  | [] => Int.le_refl _
  | e :: fs => by
    rw [updM]
    split
    · rw [total_cons, total_cons]; have := hg e.2; simp only; omega
    · rw [total_cons, total_cons]; have := updM_total_le (k := k) hg fs; omega
theorem crashL_total : ∀ (ks : List ByteArray) (keep : List Int) (fs : Fs), total (crashL ks keep fs) ≤ total fs
  | [], _, _ => Int.le_refl _
  | k :: ks, keep, fs => by
    rw [crashL]
    refine Int.le_trans (crashL_total ks _ _) (updM_total_le (fun f => ?_) fs)
    show (f.b.take _).length ≤ _
    rw [List.length_take]; omega
theorem crash_inv {st : DS} (i : Inv st) (keep : List Int) : Inv (crashD st keep) :=
  { a0 := Int.le_refl _, a1 := by show (-1 : Int) < _; omega, f0 := Int.le_refl _, f1 := by show (-1 : Int) < _; omega, r0 := i.r0, r1 := i.r1,
    full := Int.le_trans (crashL_total _ _ _) i.full, uni := by unfold Uni crashD; simp only [crashL_keys]; exact i.uni,
    names := by unfold crashD; simp only [crashL_keys]; exact i.names, sure := crashL_sure _ _ i.sure }

/-! ### Alike -/
structure Rel (a b : DS) : Prop where
  room : a.room = b.room
  fail : a.fail = b.fail
  arm : a.arm = b.arm
  off : a.off = b.off
  perm : a.fs.Perm b.fs
  srt : Srt b.fs
  inv : Inv a

theorem Rel.invR {a b : DS} (h : Rel a b) : Inv b :=
  { a0 := by rw [← h.arm]; exact h.inv.a0, a1 := by rw [← h.arm]; exact h.inv.a1, f0 := by rw [← h.fail]; exact h.inv.f0, f1 := by rw [← h.fail]; exact h.inv.f1,
    r0 := by rw [← h.room]; exact h.inv.r0, r1 := by rw [← h.room]; exact h.inv.r1, full := by rw [← h.room, ← total_perm h.perm]; exact h.inv.full,
    uni := uni_perm h.perm h.inv.uni, names := fun k hk => h.inv.names k ((h.perm.map _).mem_iff.2 hk), sure := fun e he => h.inv.sure e (h.perm.mem_iff.2 he) }

theorem Rel.new {room : Int} (h0 : 1 ≤ room) (h1 : room ≤ 16777216) : Rel ⟨room, [], -1, -1, false⟩ ⟨room, [], -1, -1, false⟩ :=
  ⟨rfl, rfl, rfl, rfl, List.Perm.refl _, List.Pairwise.nil, inv_new h0 h1⟩

theorem Rel.chg {a b : DS} (h : Rel a b) (ok : Bool) : Rel (chg a ok).1 (chg b ok).1 ∧ (chg a ok).2 = (chg b ok).2 := by
  have hi := chg_inv h.inv ok
  obtain ⟨room, fs, fail, arm, off⟩ := a
  obtain ⟨room2, fs2, fail2, arm2, off2⟩ := b
  obtain ⟨h1, h2, h3, h4, h5, h6, _⟩ := h
  simp only at h1 h2 h3 h4 h5 h6
  subst h1 h2 h3 h4
  revert hi
  unfold Proofs.YtgfneeoponiibaaGreat.chg
  cases ok
  · exact fun hi => ⟨⟨rfl, rfl, rfl, rfl, h5, h6, hi⟩, rfl⟩
  · cases off
    · cases hm : (metN arm).2
      · simp only [hm]
        exact fun hi => ⟨⟨rfl, rfl, rfl, rfl, h5, h6, hi⟩, rfl⟩
      · simp only [hm]
        exact fun hi => ⟨⟨rfl, rfl, rfl, rfl, h5, h6, hi⟩, rfl⟩
    · exact fun hi => ⟨⟨rfl, rfl, rfl, rfl, h5, h6, hi⟩, rfl⟩

theorem Rel.doing {a b : DS} (h : Rel a b) (ok : Bool) {g g' : DS → DS × Int} (hg : ok = true → ∀ a b, Rel a b → Rel (g a).1 (g' b).1 ∧ (g a).2 = (g' b).2) :
    Rel (doing a ok g).1 (doing b ok g').1 ∧ (doing a ok g).2 = (doing b ok g').2 := by
  have h1 := h.chg ok
  unfold Proofs.YtgfneeoponiibaaGreat.doing
  by_cases h0 : (Proofs.YtgfneeoponiibaaGreat.chg a ok).2 = 0
  · rw [if_pos h0, if_pos (by rw [← h1.2]; exact h0)]
    exact hg (chg_ok h0) _ _ h1.1
  · rw [if_neg h0, if_neg (by rw [← h1.2]; exact h0)]
    exact h1

theorem Rel.get {a b : DS} (h : Rel a b) (k : ByteArray) : getM k a.fs = getM k b.fs := getM_perm h.perm h.inv.uni k
theorem Rel.total {a b : DS} (h : Rel a b) : total a.fs = total b.fs := total_perm h.perm
theorem Rel.names {a b : DS} (h : Rel a b) : namesOf a.fs = b.fs.map (·.1) := names_srt h.perm h.srt
theorem Rel.read {a b : DS} (h : Rel a b) (k : ByteArray) : readD a k = readD b k := by
  unfold readD; rw [h.off, h.get]

theorem Rel.append {a b : DS} (h : Rel a b) (k : ByteArray) (xs : List Int) : Rel (appendD a k xs).1 (appendR b k xs).1 ∧ (appendD a k xs).2 = (appendR b k xs).2 := by
  refine h.doing _ fun hk a b h => ?_
  have hi := appendG_inv h.inv hk xs
  unfold appendG appendGR at *
  rw [h.total, h.room] at *
  by_cases hc : Proofs.YtgfneeoponiibaaGreat.total b.fs + xs.length > b.room
  · rw [if_pos hc, if_pos hc]; exact ⟨h, rfl⟩
  · rw [if_neg hc] at *
    rw [if_neg hc]
    have hperm : (ensure k a.fs).Perm (ensureR k b.fs) := by
      unfold ensure ensureR
      rw [h.get]
      split
      · exact h.perm
      · refine List.perm_append_comm.trans ((h.perm.cons _).trans (insM_perm (k, (⟨[], 0⟩ : Fl)) b.fs).symm)
    have hsrt : Srt (ensureR k b.fs) := by
      unfold ensureR
      by_cases hs : (getM k b.fs).isSome = true
      · rw [if_pos hs]; exact h.srt
      · rw [if_neg hs]; exact insM_srt h.srt (notin_of_getM (by simpa using hs))
    refine ⟨⟨rfl, h.fail, h.arm, h.off, updM_perm hperm (uni_ensure h.inv.uni k) k _, srt_keys (updM_keys _ _ _) hsrt, hi⟩, rfl⟩

theorem Rel.sync {a b : DS} (h : Rel a b) (k : ByteArray) : Rel (syncD a k).1 (syncD b k).1 ∧ (syncD a k).2 = (syncD b k).2 := by
  refine h.doing _ fun hk a b h => ?_
  unfold syncG
  rw [h.get]
  split
  · refine ⟨⟨h.room, h.fail, h.arm, h.off, updM_perm h.perm h.inv.uni k _, srt_keys (updM_keys _ _ _) h.srt, ?_⟩, rfl⟩
    have i := h.inv
    exact { toCounts := ⟨i.a0, i.a1, i.f0, i.f1⟩, r0 := i.r0, r1 := i.r1, full := by simp only; rw [updM_total (g := fun f => { f with sure := f.b.length }) (fun _ => rfl)]; exact i.full, uni := uni_upd i.uni, names := by simp only [updM_keys]; exact i.names, sure := sure_upd (fun f _ => Nat.le_refl _) i.sure }
  · exact ⟨h, rfl⟩

theorem Rel.unlink {a b : DS} (h : Rel a b) (k : ByteArray) : Rel (unlinkD a k).1 (unlinkD b k).1 ∧ (unlinkD a k).2 = (unlinkD b k).2 := by
  refine h.doing _ fun hk a b h => ?_
  unfold unlinkG
  rw [h.get]
  split
  · exact ⟨⟨h.room, h.fail, h.arm, h.off, delM_perm h.perm h.inv.uni k, srt_sub (delM_sub k b.fs) h.srt, del_inv h.inv k⟩, rfl⟩
  · exact ⟨h, rfl⟩

theorem Rel.rename {a b : DS} (h : Rel a b) (k to : ByteArray) : Rel (renameD a k to).1 (renameR b k to).1 ∧ (renameD a k to).2 = (renameR b k to).2 := by
  have hri := rename_inv h.inv k to
  refine h.doing _ fun hk a b h => ?_
  have hi : Inv (renameG k to a).1 := renameG_inv h.inv (by simp only [Bool.and_eq_true] at hk; exact hk.2)
  unfold renameG renameGR at *
  rw [h.get] at *
  cases hg : getM k b.fs with
  | none => exact ⟨h, rfl⟩
  | some f =>
    rw [hg] at hi
    simp only at hi ⊢
    by_cases hc : k = to
    · rw [if_pos hc, if_pos hc]; exact ⟨h, rfl⟩
    · rw [if_neg hc] at *
      rw [if_neg hc]
      have p1 : (delM k (delM to a.fs)).Perm (delM to (delM k b.fs)) := by
        have hb := uni_perm h.perm h.inv.uni
        refine (delM_perm (delM_perm h.perm h.inv.uni to) (uni_del h.inv.uni to) k).trans ?_
        rw [delM_eq_filter (uni_del hb to), delM_eq_filter hb, delM_eq_filter (uni_del hb k), delM_eq_filter hb, List.filter_filter, List.filter_filter]
        refine List.Perm.of_eq ?_
        congr 1
        funext e
        exact Bool.and_comm _ _
      have hno : to ∉ (delM to (delM k b.fs)).map (·.1) := notin_of_getM (getM_del_self to (uni_del (uni_perm h.perm h.inv.uni) k))
      refine ⟨⟨h.room, h.fail, h.arm, h.off, ?_, ?_, hi⟩, rfl⟩
      · exact List.perm_append_comm.trans ((p1.cons _).trans (insM_perm (to, f) _).symm)
      · exact insM_srt (srt_sub (delM_sub _ _) (srt_sub (delM_sub _ _) h.srt)) hno

theorem Rel.crash {a b : DS} (h : Rel a b) (keep : List Int) : Rel (crashD a keep) (crashR b keep) := by
  refine ⟨h.room, rfl, rfl, rfl, ?_, ?_, crash_inv h.inv keep⟩
  · show (crashL (namesOf a.fs) keep a.fs).Perm (crashP b.fs keep)
    rw [h.names]
    refine (crashL_perm h.perm h.inv.uni).trans ?_
    have := crashL_app (l := b.fs) (p := []) (keep := keep) (by simpa using uni_perm h.perm h.inv.uni)
    simp only [List.nil_append] at this
    rw [this]
  · refine srt_keys ?_ h.srt
    show (crashP b.fs keep).map (·.1) = _
    unfold crashP
    apply List.ext_getElem?
    intro i
    simp [List.getElem?_mapIdx]
    cases b.fs[i]? <;> rfl

theorem Rel.setFail {a b : DS} (h : Rel a b) (n : Int) (hn : n < 9223372036854775808) : Rel { a with fail := if n < 0 then a.fail else n } { b with fail := if n < 0 then b.fail else n } := by
  refine ⟨h.room, by simp only [h.fail], h.arm, h.off, h.perm, h.srt, ?_⟩
  have i := h.inv
  have f0 := i.f0; have f1 := i.f1
  exact { a0 := i.a0, a1 := i.a1, f0 := by simp only; split <;> omega, f1 := by simp only; split <;> omega, r0 := i.r0, r1 := i.r1, full := i.full, uni := i.uni, names := i.names, sure := i.sure }
theorem Rel.setArm {a b : DS} (h : Rel a b) (n : Int) (hn : n < 9223372036854775808) : Rel { a with arm := if n < 0 then a.arm else n } { b with arm := if n < 0 then b.arm else n } := by
  refine ⟨h.room, h.fail, by simp only [h.arm], h.off, h.perm, h.srt, ?_⟩
  have i := h.inv
  have f0 := i.a0; have f1 := i.a1
  exact { f0 := i.f0, f1 := i.f1, a0 := by simp only; split <;> omega, a1 := by simp only; split <;> omega, r0 := i.r0, r1 := i.r1, full := i.full, uni := i.uni, names := i.names, sure := i.sure }

end Go.Proofs.YtgfneeoponiibaaGreat
/- How many files there are behind a change. No program. Condition: none. -/
namespace Go.Proofs.YtgfneeoponiibaaGreat
open Go Go.VC

theorem updM_len {β : Type} (k : ByteArray) (g : β → β) (l : List (ByteArray × β)) : (updM k g l).length = l.length := by
  have := congrArg List.length (updM_keys k g l); simpa using this
theorem delM_len {β : Type} (k : ByteArray) (l : List (ByteArray × β)) : (delM k l).length ≤ l.length := (delM_sub k l).length_le
theorem doing_len {st : DS} {ok : Bool} {g : DS → DS × Int} {m : Nat} (h : ∀ st, (g st).1.fs.length ≤ st.fs.length + m) : (doing st ok g).1.fs.length ≤ st.fs.length + m := by
  unfold doing
  have := (chg_fs st ok).1
  split
  · have h2 := h (chg st ok).1; rw [this] at h2; exact h2
  · rw [this]; omega
theorem append_len (st : DS) (k : ByteArray) (xs : List Int) : (appendD st k xs).1.fs.length ≤ st.fs.length + 1 := by
  refine doing_len fun st => ?_
  unfold appendG; split
  · simp
  · simp only [putB, updM_len]
    unfold ensure; split <;> simp
theorem sync_len (st : DS) (k : ByteArray) : (syncD st k).1.fs.length ≤ st.fs.length := by
  refine doing_len (m := 0) fun st => ?_
  unfold syncG; split
  · simp only [updM_len]; simp
  · simp
theorem unlink_len (st : DS) (k : ByteArray) : (unlinkD st k).1.fs.length ≤ st.fs.length := by
  refine doing_len (m := 0) fun st => ?_
  unfold unlinkG; split
  · exact delM_len _ _
  · simp
theorem rename_len (st : DS) (k to : ByteArray) : (renameD st k to).1.fs.length ≤ st.fs.length + 1 := by
  refine doing_len fun st => ?_
  unfold renameG; split
  · split
    · simp
    · have h1 := delM_len k (delM to st.fs); have h2 := delM_len to st.fs
      simp only [List.length_append, List.length_cons, List.length_nil]; omega
  · simp
theorem crash_len (st : DS) (keep : List Int) : (crashD st keep).fs.length = st.fs.length := by
  have := congrArg List.length (crashL_keys (namesOf st.fs) keep st.fs); simpa [crashD] using this

theorem go_len (st : DS) (name : ByteArray) (b : List Int) : (writeGo st name b).1.fs.length ≤ st.fs.length + 2 := by
  have h1 := append_len st (nextOf name) (recB b)
  have h2 := sync_len (appendD st (nextOf name) (recB b)).1 (nextOf name)
  have h3 := rename_len (syncD (appendD st (nextOf name) (recB b)).1 (nextOf name)).1 (nextOf name) name
  unfold writeGo
  split
  · omega
  · split <;> omega
theorem write_len (st : DS) (name : ByteArray) (b : List Int) : (writeD st name b).1.fs.length ≤ st.fs.length + 2 := by
  have h1 := unlink_len st (nextOf name)
  have h2 := go_len st name b
  have h3 := go_len (unlinkD st (nextOf name)).1 name b
  unfold writeD
  split
  · show st.fs.length ≤ _; omega
  · split
    · split <;> omega
    · exact h2

end Go.Proofs.YtgfneeoponiibaaGreat
/- Writing a file whole, plain: what it leaves; a crash. No program. Condition: none. -/
namespace Go.Proofs.YtgfneeoponiibaaGreat
open Go Go.VC

theorem getM_upd_ne {β : Type} {k k2 : ByteArray} {g : β → β} (hne : k2 ≠ k) : ∀ {l : List (ByteArray × β)}, getM k2 (updM k g l) = getM k2 l
  | [] => rfl
  | e :: l => by
    simp only [updM]
    by_cases h : k = e.1
    · rw [if_pos (by rw [← h]; exact ba_rfl k)]
      simp only [getM]
      rw [if_neg (by rw [← h, ba_ne hne]; simp), if_neg (by rw [← h, ba_ne hne]; simp)]
    · rw [if_neg (by rw [ba_ne h]; simp)]
      simp only [getM]
      rw [getM_upd_ne hne]
theorem getM_app_left {β : Type} {k : ByteArray} {v : β} : ∀ {a b : List (ByteArray × β)}, getM k a = some v → getM k (a ++ b) = some v
  | [], _, h => by cases h
  | e :: a, b, h => by
    simp only [getM] at h
    rw [List.cons_append]
    simp only [getM]
    split at h
    · rename_i hk; rw [if_pos hk]; exact h
    · rename_i hk; rw [if_neg hk]; exact getM_app_left h
theorem getM_app_none {β : Type} {k : ByteArray} : ∀ {a b : List (ByteArray × β)}, getM k a = none → getM k (a ++ b) = getM k b
  | [], _, _ => rfl
  | e :: a, b, h => by
    simp only [getM] at h
    split at h
    · cases h
    · rename_i hk
      rw [List.cons_append]
      simp only [getM]
      rw [if_neg hk]
      exact getM_app_none h
theorem getM_one_ne {β : Type} {k k2 : ByteArray} {v : β} (hne : k2 ≠ k) : getM k2 [(k, v)] = none := by
  simp only [getM]; rw [if_neg (by rw [ba_ne hne]; simp)]
theorem getM_one {β : Type} {k : ByteArray} {v : β} : getM k [(k, v)] = some v := by
  simp only [getM]; rw [if_pos (ba_rfl k)]
theorem getM_snoc_ne {β : Type} {k k2 : ByteArray} {v : β} {l : List (ByteArray × β)} (hne : k2 ≠ k) : getM k2 (l ++ [(k, v)]) = getM k2 l := by
  cases h : getM k2 l with
  | none => rw [getM_app_none h, getM_one_ne hne]
  | some x => exact getM_app_left h
theorem getM_ensure_ne {k k2 : ByteArray} {fs : Fs} (hne : k2 ≠ k) : getM k2 (ensure k fs) = getM k2 fs := by
  unfold ensure
  split
  · rfl
  · exact getM_snoc_ne hne
theorem notin_names {k : ByteArray} {fs : Fs} : k ∉ namesOf fs ↔ getM k fs = none := by
  rw [mem_names]
  exact ⟨getM_of_notin, notin_of_getM⟩

/-! ### A change -/
theorem doing_get {st : DS} {ok : Bool} {g : DS → DS × Int} {k : ByteArray} (h : ∀ st, getM k (g st).1.fs = getM k st.fs) : getM k (doing st ok g).1.fs = getM k st.fs := by
  unfold doing
  split
  · rw [h, (chg_fs st ok).1]
  · rw [(chg_fs st ok).1]
theorem append_get {st : DS} {k k2 : ByteArray} {xs : List Int} (hne : k2 ≠ k) : getM k2 (appendD st k xs).1.fs = getM k2 st.fs := by
  refine doing_get fun st => ?_
  unfold appendG
  split
  · rfl
  · show getM k2 (putB k xs st.fs) = _
    unfold putB
    rw [getM_upd_ne hne, getM_ensure_ne hne]
theorem sync_get {st : DS} {k k2 : ByteArray} (hne : k2 ≠ k) : getM k2 (syncD st k).1.fs = getM k2 st.fs := by
  refine doing_get fun st => ?_
  unfold syncG
  split
  · exact getM_upd_ne hne
  · rfl
theorem unlink_get {st : DS} {k k2 : ByteArray} (hne : k2 ≠ k) : getM k2 (unlinkD st k).1.fs = getM k2 st.fs := by
  refine doing_get fun st => ?_
  unfold unlinkG
  split
  · exact getM_del_ne hne
  · rfl
theorem rename_get {st : DS} {k to k2 : ByteArray} (h1 : k2 ≠ k) (h2 : k2 ≠ to) : getM k2 (renameD st k to).1.fs = getM k2 st.fs := by
  refine doing_get fun st => ?_
  unfold renameG
  split
  · split
    · rfl
    · show getM k2 (delM k (delM to st.fs) ++ _) = _
      rw [getM_snoc_ne h2, getM_del_ne h1, getM_del_ne h2]
  · rfl
theorem doing_ok {st : DS} {ok : Bool} {g : DS → DS × Int} (h : (doing st ok g).2 = 0) : (chg st ok).2 = 0 ∧ doing st ok g = g (chg st ok).1 := by
  unfold doing at h ⊢
  split
  · rename_i h1; exact ⟨h1, rfl⟩
  · rename_i h1; rw [if_neg h1] at h; exact absurd h h1
theorem doing_err {st : DS} {ok : Bool} {g : DS → DS × Int} (hg : ∀ st, (g st).2 ≠ 0 → (g st).1.fs = st.fs) (h : (doing st ok g).2 ≠ 0) : (doing st ok g).1.fs = st.fs := by
  unfold doing at h ⊢
  split
  · rename_i h1; rw [if_pos h1] at h; rw [hg _ h, (chg_fs st ok).1]
  · exact (chg_fs st ok).1
theorem append_err {st : DS} {k : ByteArray} {xs : List Int} (h : (appendD st k xs).2 ≠ 0) : (appendD st k xs).1.fs = st.fs := by
  refine doing_err (fun st h => ?_) h
  unfold appendG at h ⊢
  split
  · rfl
  · rename_i h1; rw [if_neg h1] at h; exact absurd rfl h
theorem sync_err {st : DS} {k : ByteArray} (h : (syncD st k).2 ≠ 0) : (syncD st k).1.fs = st.fs := by
  refine doing_err (fun st h => ?_) h
  unfold syncG at h ⊢
  split
  · rename_i h1; rw [if_pos h1] at h; exact absurd rfl h
  · rfl
theorem unlink_err {st : DS} {k : ByteArray} (h : (unlinkD st k).2 ≠ 0) : (unlinkD st k).1.fs = st.fs := by
  refine doing_err (fun st h => ?_) h
  unfold unlinkG at h ⊢
  split
  · rename_i h1; rw [if_pos h1] at h; exact absurd rfl h
  · rfl
theorem rename_err {st : DS} {k to : ByteArray} (h : (renameD st k to).2 ≠ 0) : (renameD st k to).1.fs = st.fs := by
  refine doing_err (fun st h => ?_) h
  unfold renameG at h ⊢
  split
  · rename_i f hf
    rw [hf] at h
    simp only at h
    split at h <;> exact absurd rfl h
  · rfl

/-- The file that a write leaves. -/
abbrev whole (b : List Int) : Fl := ⟨recB b, (recB b).length⟩

theorem append_new {st : DS} {k : ByteArray} {xs : List Int} (hk : getM k st.fs = none) (h : (appendD st k xs).2 = 0) : getM k (appendD st k xs).1.fs = some ⟨xs, 0⟩ := by
  obtain ⟨_, e⟩ := doing_ok h
  have e : appendD st k xs = appendG (chg st (nameOk k)).1 k xs := e
  rw [e] at h ⊢
  have hf := (chg_fs st (nameOk k)).1
  generalize (chg st (nameOk k)).1 = st' at *
  unfold appendG at h ⊢
  split
  · rename_i h1; rw [if_pos h1] at h; cases h
  · show getM k (putB k xs st'.fs) = _
    have he : getM k (ensure k st'.fs) = some ⟨[], 0⟩ := by
      unfold ensure
      rw [hf, hk]
      rw [if_neg (by simp)]
      rw [getM_app_none hk, getM_one]
    unfold putB
    rw [getM_upd he]; rfl
theorem sync_done {st : DS} {k : ByteArray} {f : Fl} (hk : getM k st.fs = some f) (h : (syncD st k).2 = 0) : getM k (syncD st k).1.fs = some ⟨f.b, f.b.length⟩ := by
  obtain ⟨_, e⟩ := doing_ok h
  have e : syncD st k = syncG k (chg st (nameOk k)).1 := e
  rw [e]
  have hf := (chg_fs st (nameOk k)).1
  generalize (chg st (nameOk k)).1 = st' at *
  unfold syncG
  rw [hf, hk, if_pos (show (some f).isSome = true from rfl)]
  exact getM_upd hk
theorem rename_done {st : DS} (u : Uni st.fs) {k to : ByteArray} {f : Fl} (hne : k ≠ to) (hk : getM k st.fs = some f) (h : (renameD st k to).2 = 0) : getM to (renameD st k to).1.fs = some f ∧ getM k (renameD st k to).1.fs = none := by
  obtain ⟨_, e⟩ := doing_ok h
  have e : renameD st k to = renameG k to (chg st (nameOk k && nameOk to)).1 := e
  rw [e]
  have hf := (chg_fs st (nameOk k && nameOk to)).1
  generalize (chg st (nameOk k && nameOk to)).1 = st' at *
  unfold renameG
  rw [hf, hk]
  simp only
  rw [if_neg hne]
  have n1 : getM to (delM k (delM to st.fs)) = none := by
    rw [getM_del_ne (fun h => hne h.symm)]
    exact getM_del_self to u
  constructor
  · show getM to (delM k (delM to st.fs) ++ [(to, f)]) = _
    rw [getM_app_none n1, getM_one]
  · show getM k (delM k (delM to st.fs) ++ [(to, f)]) = _
    rw [getM_snoc_ne hne]
    exact getM_del_self k (uni_del u to)
theorem unlink_done {st : DS} (u : Uni st.fs) {k : ByteArray} (h : (unlinkD st k).2 = 0) : getM k (unlinkD st k).1.fs = none := by
  obtain ⟨_, e⟩ := doing_ok h
  have e : unlinkD st k = unlinkG k (chg st (nameOk k)).1 := e
  rw [e] at h ⊢
  have hf := (chg_fs st (nameOk k)).1
  generalize (chg st (nameOk k)).1 = st' at *
  unfold unlinkG at h ⊢
  split
  · show getM k (delM k st'.fs) = none
    rw [hf]
    exact getM_del_self k u
  · rename_i h1; rw [if_neg h1] at h; cases h

theorem go_out {st : DS} (i : Inv st) {name : ByteArray} {b : List Int} (hne : nextOf name ≠ name) (hnx : getM (nextOf name) st.fs = none) :
    ((writeGo st name b).2 ≠ 0 → getM name (writeGo st name b).1.fs = getM name st.fs) ∧ ((writeGo st name b).2 = 0 → getM name (writeGo st name b).1.fs = some (whole b) ∧ getM (nextOf name) (writeGo st name b).1.fs = none) := by
  have hne' : name ≠ nextOf name := fun h => hne h.symm
  have ga : getM name (appendD st (nextOf name) (recB b)).1.fs = getM name st.fs := append_get hne'
  have gs : getM name (syncD (appendD st (nextOf name) (recB b)).1 (nextOf name)).1.fs = getM name st.fs := by rw [sync_get hne', ga]
  unfold writeGo
  split
  · rename_i h; exact ⟨fun _ => ga, fun h2 => absurd h2 h⟩
  rename_i h1
  have h1 : (appendD st (nextOf name) (recB b)).2 = 0 := Decidable.not_not.1 h1
  have na := append_new hnx h1
  split
  · rename_i h; exact ⟨fun _ => gs, fun h2 => absurd h2 h⟩
  rename_i h2
  have h2 := Decidable.not_not.1 h2
  have ns := sync_done na h2
  have i2 := sync_inv (appendD_inv i (nextOf name) (recB b)) (nextOf name)
  refine ⟨fun h => ?_, fun h => rename_done i2.uni hne ns h⟩
  rw [rename_err h, gs]

theorem write_out {st : DS} (i : Inv st) {name : ByteArray} {b : List Int} (hne : nextOf name ≠ name) :
    ((writeD st name b).2 ≠ 0 → getM name (writeD st name b).1.fs = getM name st.fs) ∧ ((writeD st name b).2 = 0 → getM name (writeD st name b).1.fs = some (whole b) ∧ getM (nextOf name) (writeD st name b).1.fs = none) := by
  have hne' : name ≠ nextOf name := fun h => hne h.symm
  unfold writeD
  split
  · exact ⟨fun _ => rfl, fun h => by cases h⟩
  split
  · split
    · rename_i h; exact ⟨fun _ => unlink_get hne', fun h2 => absurd h2 h⟩
    · rename_i h
      have h := Decidable.not_not.1 h
      have := go_out (unlink_inv i (nextOf name)) (b := b) hne (unlink_done i.uni h)
      rw [unlink_get hne'] at this
      exact this
  · rename_i h
    exact go_out i hne (notin_names.1 h)

/-- What is not concerned stays. -/
theorem go_get {st : DS} {name k : ByteArray} {b : List Int} (h1 : k ≠ name) (h2 : k ≠ nextOf name) : getM k (writeGo st name b).1.fs = getM k st.fs := by
  unfold writeGo
  split
  · exact append_get h2
  · split
    · rw [sync_get h2, append_get h2]
    · rw [rename_get h2 h1, sync_get h2, append_get h2]
theorem write_get {st : DS} {name k : ByteArray} {b : List Int} (h1 : k ≠ name) (h2 : k ≠ nextOf name) : getM k (writeD st name b).1.fs = getM k st.fs := by
  unfold writeD
  split
  · rfl
  split
  · split
    · exact unlink_get h2
    · rw [go_get h1 h2, unlink_get h2]
  · exact go_get h1 h2

/-! ### A disk on which all goes well -/
structure Calm (st : DS) : Prop where
  arm : st.arm = -1
  fail : st.fail = -1
  off : st.off = false
theorem doing_calm {st : DS} (c : Calm st) {g : DS → DS × Int} : doing st true g = g st := by
  unfold doing
  rw [chg_calm c.arm c.fail c.off]; rfl
theorem append_calm {st : DS} (c : Calm st) {k : ByteArray} {xs : List Int} (hk : nameOk k = true) (hr : total st.fs + xs.length ≤ st.room) : (appendD st k xs).2 = 0 ∧ Calm (appendD st k xs).1 ∧ total (appendD st k xs).1.fs = total st.fs + xs.length ∧ (appendD st k xs).1.room = st.room := by
  unfold appendD
  rw [hk, doing_calm c]
  unfold appendG
  rw [if_neg (by omega)]
  exact ⟨rfl, ⟨c.arm, c.fail, c.off⟩, putB_total k xs st.fs, rfl⟩
theorem sync_calm {st : DS} (c : Calm st) {k : ByteArray} {f : Fl} (hk : nameOk k = true) (hf : getM k st.fs = some f) : (syncD st k).2 = 0 ∧ Calm (syncD st k).1 ∧ total (syncD st k).1.fs = total st.fs ∧ (syncD st k).1.room = st.room := by
  unfold syncD
  rw [hk, doing_calm c]
  unfold syncG
  rw [hf, if_pos (show (some f).isSome = true from rfl)]
  exact ⟨rfl, ⟨c.arm, c.fail, c.off⟩, updM_total (g := fun f : Fl => { f with sure := f.b.length }) (fun _ => rfl) _, rfl⟩
theorem rename_calm {st : DS} (c : Calm st) (u : Uni st.fs) {k to : ByteArray} {f : Fl} (hne : k ≠ to) (hk : nameOk k = true) (ht : nameOk to = true) (hf : getM k st.fs = some f) : (renameD st k to).2 = 0 ∧ Calm (renameD st k to).1 ∧ total (renameD st k to).1.fs ≤ total st.fs ∧ (renameD st k to).1.room = st.room := by
  unfold renameD
  rw [hk, ht, show (true && true) = true from rfl, doing_calm c]
  unfold renameG
  rw [hf]
  simp only
  rw [if_neg hne]
  refine ⟨rfl, ⟨c.arm, c.fail, c.off⟩, ?_, rfl⟩
  show total (delM k (delM to st.fs) ++ [(to, f)]) ≤ total st.fs
  rw [total_app, total_cons, total_nil]
  have h1 := total_get (k := k) (f := f) (fs := delM to st.fs) (by rw [getM_del_ne hne]; exact hf)
  have h2 := delM_total to st.fs
  simp only
  omega

theorem write_calm {st : DS} (c : Calm st) (i : Inv st) {name : ByteArray} {b : List Int} (hn : nameOk name = true) (hx : nameOk (nextOf name) = true) (hne : nextOf name ≠ name) (hnx : getM (nextOf name) st.fs = none) (hb : b.length ≤ 65536) (hr : total st.fs + ((8 + b.length : Nat) : Int) ≤ st.room) :
    (writeD st name b).2 = 0 ∧ Calm (writeD st name b).1 ∧ total (writeD st name b).1.fs ≤ total st.fs + ((8 + b.length : Nat) : Int) ∧ (writeD st name b).1.room = st.room := by
  unfold writeD
  rw [if_neg (by omega), if_neg (notin_names.2 hnx)]
  unfold writeGo
  rw [← recB_len b] at hr ⊢
  obtain ⟨a1, a2, a3, a4⟩ := append_calm c (k := nextOf name) (xs := recB b) hx hr
  have na := append_new hnx a1
  obtain ⟨s1, s2, s3, s4⟩ := sync_calm a2 hx na
  have ns := sync_done na s1
  have i2 := sync_inv (appendD_inv i (nextOf name) (recB b)) (nextOf name)
  obtain ⟨r1, r2, r3, r4⟩ := rename_calm s2 i2.uni hne hx hn ns
  rw [if_neg (by rw [a1]; simp), if_neg (by rw [s1]; simp)]
  exact ⟨r1, r2, by omega, by rw [r4, s4, a4]⟩

/-! ### A crash -/
theorem cutF_whole (kp : Option Int) (b : List Int) : cutF kp ⟨b, b.length⟩ = ⟨b, b.length⟩ := by
  have : stay kp ⟨b, b.length⟩ = 0 := by
    unfold stay
    split
    · rfl
    · simp only; omega
  unfold cutF
  rw [this]
  simp
theorem crashL_get {k : ByteArray} {b : List Int} : ∀ (ks : List ByteArray) (keep : List Int) {fs : Fs}, getM k fs = some ⟨b, b.length⟩ → getM k (crashL ks keep fs) = some ⟨b, b.length⟩
  | [], _, _, h => h
  | x :: ks, keep, fs, h => by
    rw [crashL]
    refine crashL_get ks keep.tail ?_
    by_cases hx : k = x
    · subst hx
      rw [getM_upd h, cutF_whole]
    · rw [getM_upd_ne hx, h]
theorem crash_get {st : DS} {keep : List Int} {k : ByteArray} {b : List Int} (h : getM k st.fs = some ⟨b, b.length⟩) : getM k (crashD st keep).fs = some ⟨b, b.length⟩ := crashL_get _ _ h
theorem crash_calm (st : DS) (keep : List Int) : Calm (crashD st keep) := ⟨rfl, rfl, rfl⟩

/-! ### Loading -/
theorem read_get {st : DS} {k : ByteArray} {f : Fl} (ho : st.off = false) (hk : nameOk k = true) (h : getM k st.fs = some f) : readD st k = (f.b, 0) := by
  unfold readD
  rw [ho, hk, h]; rfl
theorem one_get {st : DS} {k : ByteArray} {b : List Int} (ho : st.off = false) (hk : nameOk k = true) (h : getM k st.fs = some (whole b)) (hl : b.length ≤ 65536) (hb : Byt b) : oneD st k = (some b, 0) := by
  unfold oneD
  rw [read_get ho hk h]
  simp only [if_true]
  rw [recOf_rec hl hb]

theorem snapN_ok : nameOk snapN = true := by kernel_rfl
theorem snapX_ok : nameOk (nextOf snapN) = true := by kernel_rfl
theorem snap_ne : nextOf snapN ≠ snapN := by decide
theorem hs_ne : hardN ≠ snapN := by decide
theorem hsx_ne : hardN ≠ nextOf snapN := by decide
theorem shx_ne : snapN ≠ nextOf hardN := by decide
theorem xx_ne : nextOf hardN ≠ nextOf snapN := by decide
theorem xs_ne : nextOf hardN ≠ snapN := by decide
theorem xh_ne : nextOf snapN ≠ hardN := by decide

theorem rdText_text {d rest : List Int} {most : Int} (hl : d.length < 1000000) (hm : (d.length : Int) ≤ most) : rdText most ⟨textB d ++ rest, false⟩ = (d, ⟨rest, false⟩) := by
  unfold rdText textB
  rw [if_neg (by simp)]
  dsimp only
  rw [List.append_assoc, parse_num (by omega)]
  dsimp only
  have hn := numB_len (n := d.length) (by omega)
  rw [if_pos ⟨rfl, by omega, hm, by simp only [List.length_append]; omega⟩, List.drop_left, Int.toNat_natCast, List.take_left, ← List.drop_drop, List.drop_left, List.drop_left]
theorem rdMany_nums {most : Int} : ∀ {l : List Int}, (∀ x ∈ l, 0 ≤ x ∧ x ≤ most ∧ x < 18446744073709551616) → ∀ rest, rdMany l.length most ⟨numsB l ++ rest, false⟩ = (l, ⟨rest, false⟩)
  | [], _, rest => by simp [rdMany, numsB]
  | x :: l, h, rest => by
    have hx := h x (List.mem_cons_self ..)
    obtain ⟨n, hn⟩ := Int.eq_ofNat_of_zero_le hx.1
    have ih := rdMany_nums (l := l) (fun y hy => h y (List.mem_cons_of_mem _ hy)) rest
    have e : numsB (x :: l) ++ rest = numB n ++ (numsB l ++ rest) := by
      unfold numsB
      rw [List.map_cons, List.flatten_cons, hn, Int.toNat_natCast, List.append_assoc]
    rw [List.length_cons, e]
    show ((rdNum most ⟨numB n ++ (numsB l ++ rest), false⟩).1 :: _, _) = _
    rw [rdNum_num (by omega) (by omega), ih, hn]
theorem rdList_nums {l : List Int} (h : ∀ x ∈ l, 0 ≤ x ∧ x ≤ 15) (hl : l.length ≤ 15) (rest : List Int) : rdList ⟨numsB [(l.length : Int)] ++ (numsB l ++ rest), false⟩ = (l, ⟨rest, false⟩) := by
  have e : numsB [(l.length : Int)] = numB l.length := by simp [numsB]
  unfold rdList
  rw [e, rdNum_num (by omega) (by omega)]
  simp only [Int.toNat_natCast]
  exact rdMany_nums (fun x hx => by have := h x hx; omega) rest

/-- A snapshot that was encoded is decoded as it was. -/
theorem dec_snapB {x : SnapM} (h : x.ok = true) : decSnap (snapB x) = (x, 0) := by
  obtain ⟨h1, h2, h3, h4, h5, h6, h7, _⟩ := snapOk_out h
  have e := snapB_eq x h1.1 h2.1
  obtain ⟨i, hi⟩ := Int.eq_ofNat_of_zero_le h1.1
  obtain ⟨t, ht⟩ := Int.eq_ofNat_of_zero_le h2.1
  rw [hi, ht, Int.toNat_natCast, Int.toNat_natCast] at e
  have e2 : snapB x = numB i ++ (numB t ++ (numsB [(x.vot.length : Int)] ++ (numsB x.vot ++ (numsB [(x.lrn.length : Int)] ++ (numsB x.lrn ++ (textB x.data ++ [])))))) := by
    rw [e]; simp
  have hm : decSnapM (snapB x) = (x, ⟨[], false⟩) := by
    unfold decSnapM
    simp only
    rw [e2, rdNum_num (by omega) (by omega)]
    simp only
    rw [rdNum_num (by omega) (by omega)]
    simp only
    rw [rdList_nums h3 h5]
    simp only
    rw [rdList_nums h4 h6]
    simp only
    rw [rdText_text (by omega) (by omega), ← hi, ← ht]
  unfold decSnap
  rw [hm]
  exact if_pos ⟨rfl, h⟩

end Go.Proofs.YtgfneeoponiibaaGreat
/- Hard states that are the same, by Go's '=='. No condition. -/
namespace Go.Proofs.YtgfneeoponiibaaGreat
open Go Go.VC

theorem hard_eq1 (x y x' y' : Int) (w : World) : (Op.equal 37 (.agg #[.int .i64 x, .int .i64 y]) (.agg #[.int .i64 x', .int .i64 y'])).run Tryz.prog w = .ok (decide (x = x' ∧ y = y')) w := by
  show (Op.equalIn (9999 + 1) _ _ _).run _ _ = _
  rw [run_equalIn_struct w 9999 37 _ _ (by kernel_rfl) (by kernel_rfl)]
  have hf : (Tryz.prog.fieldsOf 37).toList = [⟨"Term", 3, 0, false, "", "", 0⟩, ⟨"Vote", 3, 1, false, "", "", 8⟩] := by kernel_rfl
  rw [hf]
  have p : ∀ (xs : Array Value) (i : Nat) (v : Value), xs[i]? = some v → (part 3 xs i).run Tryz.prog w = .ok v w := fun xs i v h => run_part_plain (P := Tryz.prog) (w := w) (e := 3) (by kernel_rfl) h
  have e : ∀ a b : Int, (Op.equalIn 9999 3 (.int .i64 a) (.int .i64 b)).run Tryz.prog w = .ok (a == b) w := fun a b => run_equalIn_int w 9998 3 .i64 .i64 a b Tryz.underlying3
  unfold Op.eqFields
  rw [if_pos (by simp), Sem.run_bind, p _ 0 (.int .i64 x) rfl, Result.andThen_ok, Sem.run_bind, p _ 0 (.int .i64 x') rfl, Result.andThen_ok, Sem.run_bind, e, Result.andThen_ok]
  by_cases h1 : x = x'
  · subst h1
    rw [if_neg (by simp)]
    unfold Op.eqFields
    rw [if_pos (by simp), Sem.run_bind, p _ 1 (.int .i64 y) rfl, Result.andThen_ok, Sem.run_bind, p _ 1 (.int .i64 y') rfl, Result.andThen_ok, Sem.run_bind, e, Result.andThen_ok]
    by_cases h2 : y = y'
    · subst h2
      rw [if_neg (by simp)]
      unfold Op.eqFields
      simp
    · rw [if_pos (by simp [h2]), Sem.run_pure, decide_eq_false (fun h => h2 h.2)]
  · rw [if_pos (by simp [h1]), Sem.run_pure, decide_eq_false (fun h => h1 h.1)]

theorem hard_guard (op : BinOp) (x y x' y' : Int) (w : World) (a b : Operand) : (eqGuard op 37 a b (.agg #[.int .i64 x, .int .i64 y]) (.agg #[.int .i64 x', .int .i64 y'])).run Tryz.prog w = .ok () w := by
  have h : Tryz.prog.eqGuardType Tryz.prog.depth 37 = false := by kernel_rfl
  unfold eqGuard
  cases op <;> simp [h]

theorem hard_eql (x y x' y' : Int) (a b : Operand) (w : World) : ((do eqGuard BinOp.eql 37 a b (.agg #[.int .i64 x, .int .i64 y]) (.agg #[.int .i64 x', .int .i64 y']); binOp BinOp.eql 37 (.agg #[.int .i64 x, .int .i64 y]) (.agg #[.int .i64 x', .int .i64 y']) : Sem Value)).run Tryz.prog w = .ok (.bool (decide (x = x' ∧ y = y'))) w := by
  rw [Sem.run_bind, hard_guard, Result.andThen_ok]
  show (do pure (.bool (← Op.equal 37 _ _)) : Sem Value).run _ _ = _
  rw [Sem.run_bind, hard_eq1, Result.andThen_ok, Sem.run_pure]
theorem hard_neq (x y x' y' : Int) (a b : Operand) (w : World) : ((do eqGuard BinOp.neq 37 a b (.agg #[.int .i64 x, .int .i64 y]) (.agg #[.int .i64 x', .int .i64 y']); binOp BinOp.neq 37 (.agg #[.int .i64 x, .int .i64 y]) (.agg #[.int .i64 x', .int .i64 y']) : Sem Value)).run Tryz.prog w = .ok (.bool (!decide (x = x' ∧ y = y'))) w := by
  rw [Sem.run_bind, hard_guard, Result.andThen_ok]
  show (do pure (.bool (!(← Op.equal 37 _ _))) : Sem Value).run _ _ = _
  rw [Sem.run_bind, hard_eq1, Result.andThen_ok, Sem.run_pure]

end Go.Proofs.YtgfneeoponiibaaGreat
/- KeepCodes, KeepSnaps: the laws. No condition. -/
namespace Go.Proofs.YtgfneeoponiibaaGreat
open Go Go.VC

variable {R : Cx} {Hs Rest : List HP} {w : World}

theorem decSnap_out {bs : List Int} (hb : ∀ y ∈ bs, 0 ≤ y ∧ y < 256) : (decSnap bs).1.vot.length ≤ 15 ∧ (decSnap bs).1.lrn.length ≤ 15 ∧ (decSnap bs).1.data.length ≤ 60000 ∧ ∀ z ∈ (decSnap bs).1.data, 0 ≤ z ∧ z < 256 := by
  unfold decSnap
  split
  · rename_i h
    obtain ⟨h1, h2, h3, h4, h5, h6, h7, _⟩ := snapOk_out h.2
    refine ⟨h5, h6, h7, ?_⟩
    unfold decSnapM
    have b0 : ∀ y ∈ (⟨bs, false⟩ : Rd).bs, 0 ≤ y ∧ y < 256 := hb
    have bl : ∀ {rd : Rd}, (∀ x ∈ rd.bs, 0 ≤ x ∧ x < 256) → ∀ x ∈ (rdList rd).2.bs, 0 ≤ x ∧ x < 256 := fun h => rdMany_bd _ _ (rdNum_bd h)
    exact (rdText_bd (bl (bl (rdNum_bd (rdNum_bd b0))))).1
  · exact ⟨by simp [snap0], by simp [snap0], by simp [snap0], by simp [snap0]⟩

/-- A snapshot that can be read. -/
structure SnapR (R : Cx) (x : SnapM) (sv sl sd : Sl) : Prop where
  v : RoI R sv x.vot
  l : RoI R sl x.lrn
  d : Ro R sd (b8 x.data)
  b : ∀ z ∈ x.data, 0 ≤ z ∧ z < 256
theorem SnapR.ext {R' : Cx} {x : SnapM} {sv sl sd : Sl} (e : R.Ext R') (h : SnapR R x sv sl sd) : SnapR R' x sv sl sd := ⟨e.ro h.v, e.ro h.l, e.ro h.d, h.b⟩
theorem SnapR.dl {x : SnapM} {sv sl sd : Sl} (h : SnapR R x sv sl sd) : sd.len = x.data.length := by have := h.d.len; simpa using this

theorem SnapA.leak {x : SnapM} {sv sl sd : Sl} (h1 : x.vot.length ≤ 15) (h2 : x.lrn.length ≤ 15) (h3 : x.data.length ≤ 60000) (hb : ∀ z ∈ x.data, 0 ≤ z ∧ z < 256) (h : Sat R (SnapA x sv sl sd :: Hs) w) :
    ∃ R' : Cx, R.Ext R' ∧ SnapR R' x sv sl sd ∧ Sat R' Hs w := by
  have h := Sat.snapA.1 h
  obtain ⟨R1, e1, r1, h⟩ := Own.leak h
  obtain ⟨R2, e2, r2, h⟩ := Own.leak h
  obtain ⟨R3, e3, r3, h⟩ := Own.leak h
  exact ⟨R3, (e1.trans e2).trans e3, ⟨e3.ro (e2.ro (r1.ro (by rw [List.length_map]; omega))), e3.ro (r2.ro (by rw [List.length_map]; omega)), r3.ro (by rw [List.length_map]; omega), hb⟩, h⟩
theorem SnapA.leakD {bs : List Int} {sv sl sd : Sl} (hb : ∀ y ∈ bs, 0 ≤ y ∧ y < 256) (h : Sat R (SnapA (decSnap bs).1 sv sl sd :: Hs) w) :
    ∃ R' : Cx, R.Ext R' ∧ SnapR R' (decSnap bs).1 sv sl sd ∧ Sat R' Hs w := by
  obtain ⟨h1, h2, h3, h4⟩ := decSnap_out hb
  exact SnapA.leak h1 h2 h3 h4 h

theorem sameR_spec {x y : SnapM} {sv sl sd tv tl td : Sl} (hx : SnapR R x sv sl sd) (hy : SnapR R y tv tl td) (hw : Sat R Hs w) :
    Gets Tryz.prog 13 #[.agg (snapVals x.idx x.term sv sl sd).toArray, .agg (snapVals y.idx y.term tv tl td).toArray] w fun r w' => r = .bool (decide (x = y)) ∧ Sat R Hs w' :=
  sameS_spec hx.b hy.b hx.v hx.l hy.v hy.l hx.d hy.d hw

/-- What Encode tells. -/
def encE (x : SnapM) : List Int × Int := if x.ok = true then (snapB x, 0) else ([], 1)
theorem encE_len (x : SnapM) : (encE x).1.length ≤ 60400 := by
  unfold encE
  split
  · rename_i h; exact snapB_len h
  · simp
theorem encL_spec {x : SnapM} {sv sl sd : Sl} (h : SnapR R x sv sl sd) (hw : Sat R Hs w) :
    Gets Tryz.prog 9 #[.agg (snapVals x.idx x.term sv sl sd).toArray] w fun r w' => ∃ (t : Sl) (R' : Cx), r = .tuple #[.slice t.a t.len t.cap, .int .i64 (encE x).2] ∧ R.Ext R' ∧ SlR R'.m t (b8 (encE x).1) ∧ Sat R' Hs w' := by
  refine (enc_spec h.v h.l h.d hw).mono ?_
  rintro _ w (⟨hk, rfl, hw⟩ | ⟨hk, t, rfl, hw⟩)
  · have e : encE x = ([], 1) := if_neg (by rw [hk]; simp)
    rw [e]
    obtain ⟨R', e1, h1, h2⟩ := Own.leak (Own.nil (T := 5) hw)
    exact ⟨⟨none, 0, 0⟩, R', rfl, e1, h1, h2⟩
  · have e : encE x = (snapB x, 0) := if_pos hk
    rw [e]
    obtain ⟨R', e1, h1, h2⟩ := Own.leak hw
    exact ⟨t, R', rfl, e1, h1, h2⟩
theorem rencL_spec {x : SnapM} {sv sl sd : Sl} (h : SnapR R x sv sl sd) (hw : Sat R Hs w) :
    Gets Tryz.prog 10 #[.agg (snapVals x.idx x.term sv sl sd).toArray] w fun r w' => ∃ (t : Sl) (R' : Cx), r = .tuple #[.slice t.a t.len t.cap, .int .i64 (encE x).2] ∧ R.Ext R' ∧ SlR R'.m t (b8 (encE x).1) ∧ Sat R' Hs w' := by
  refine (renc_spec h.v h.l h.d hw).mono ?_
  rintro _ w (⟨hk, rfl, hw⟩ | ⟨hk, t, rfl, hw⟩)
  · have e : encE x = ([], 1) := if_neg (by rw [hk]; simp)
    rw [e]
    obtain ⟨R', e1, h1, h2⟩ := Own.leak (Own.nil (T := 5) hw)
    exact ⟨⟨none, 0, 0⟩, R', rfl, e1, h1, h2⟩
  · have e : encE x = (snapB x, 0) := if_pos hk
    rw [e]
    obtain ⟨R', e1, h1, h2⟩ := Own.leak hw
    exact ⟨t, R', rfl, e1, h1, h2⟩

theorem snapPut {b : Nat} {i0 t0 i t : Int} {sv0 sl0 sd0 sv sl sd : Sl} {K : World → Prop} (hw : Sat R (pts b (snapCells i0 t0 sv0 sl0 sd0) :: Hs) w) (hk : ∀ w, Sat R (pts b (snapCells i t sv sl sd) :: Hs) w → K w) :
    ∃ w_25 : World, ((Instr.storeAt 27 (.pointer ((some ⟨b, 0, none⟩))) (.agg #[.int .i64 i, .int .i64 t, .slice sv.a sv.len sv.cap, .slice sl.a sl.len sl.cap, .slice sd.a sd.len sd.cap])).run Tryz.prog w = .ok () w_25) ∧ K w_25 := by
  refine store_rule hw (by kernel_rfl) rfl (by simp [Value.cells]) fun w hw => hk w ?_
  exact hw.re (pts b (snapCells i t sv sl sd))

theorem snapPut0 {b : Nat} {i t : Int} {sv sl sd : Sl} {K : World → Prop} (hw : Sat R (pts b (.cells #[.int .i64 0, .int .i64 0, .slice none 0 0, .slice none 0 0, .slice none 0 0] 27 (0, 0)) :: Hs) w) (hk : ∀ w, Sat R (pts b (snapCells i t sv sl sd) :: Hs) w → K w) :
    ∃ w_25 : World, ((Instr.storeAt 27 (.pointer ((some ⟨b, 0, none⟩))) (.agg #[.int .i64 i, .int .i64 t, .slice sv.a sv.len sv.cap, .slice sl.a sl.len sl.cap, .slice sd.a sd.len sd.cap])).run Tryz.prog w = .ok () w_25) ∧ K w_25 :=
  snapPut (i0 := 0) (t0 := 0) (sv0 := ⟨none, 0, 0⟩) (sl0 := ⟨none, 0, 0⟩) (sd0 := ⟨none, 0, 0⟩) hw hk

theorem codes_law {x : SnapM} {sv sl sd s : Sl} {bs : List Int} (hx : SnapR R x sv sl sd) (hs : SlR R.m s (b8 bs)) (hb : ∀ y ∈ bs, 0 ≤ y ∧ y < 256) (hw : Sat R Hs w) :
    Gets Tryz.prog 3 #[.agg (snapVals x.idx x.term sv sl sd).toArray, .slice s.a s.len s.cap] w fun v w' => v = .bool true ∧ Sat R Hs w' := by
  have hsl : s.len = bs.length := by have := hs.len; simpa using this
  apply call3
  refine new_rule hw fun p w hw => ?_
  have hw : Sat R (pts p (snapCells x.idx x.term sv sl sd) :: Hs) w := hw
  refine (awake_spec hw).use ?_
  rintro _ w ⟨rfl, hw⟩
  refine ⟨true, rfl, fun w => (bs.length ≤ 200000) ∧ Sat R (pts p (snapCells x.idx x.term sv sl sd) :: Hs) w, ?_, ?_⟩
  · refine Br.mk (fun h => ⟨rfl, hw.drop⟩) (fun h => ⟨sd, At.own (eqS hw) (by exact ⟨rfl, trivial⟩), Br.mk (fun h => ⟨rfl, hw.drop⟩) (fun _ => ⟨?_, hw⟩)⟩)
    have := of_decide_eq_false h; omega
  clear hw
  rintro _ w ⟨hbl, hw⟩
  refine ⟨x.idx, x.term, sv, sl, sd, At.own (eqS hw) (by exact ⟨rfl, rfl, rfl, rfl, rfl, trivial⟩), ?_⟩
  refine (encL_spec hx hw).use ?_
  rintro _ w ⟨t1, R1, rfl, e1, ht1, hw⟩
  refine ⟨t1, _, rfl, x.idx, x.term, sv, sl, sd, At.own (eqS hw) (by exact ⟨rfl, rfl, rfl, rfl, rfl, trivial⟩), ?_⟩
  refine (rencL_spec (hx.ext e1) hw).use ?_
  rintro _ w ⟨t2, R2, rfl, e2, ht2, hw⟩
  refine ⟨t2, _, rfl, ?_⟩
  have hs2 := (e1.trans e2).slR hs
  refine (dec_spec hb (hs2.ro (by rw [List.length_map]; omega)) (by omega) hw).use ?_
  rintro _ w ⟨yv, yl, yd, rfl, hw⟩
  obtain ⟨R3, e3, hy, hw⟩ := SnapA.leakD hb hw
  refine ⟨_, _, _, _, _, _, rfl, ?_⟩
  refine new_rule hw fun py w hw => snapPut0 hw fun w hw => ?_
  refine (rdec_spec hb (e3.slR hs2) (by omega) hw).use ?_
  rintro _ w ⟨zv, zl, zd, rfl, hw⟩
  obtain ⟨R4, e4, hz, hw⟩ := SnapA.leakD hb hw
  refine ⟨_, _, _, _, _, _, rfl, ?_⟩
  refine new_rule hw fun pz w hw => snapPut0 hw fun w hw => ?_
  refine ⟨_, _, yv, yl, yd, At.own (eqS hw) (by exact ⟨rfl, rfl, rfl, rfl, rfl, trivial⟩), _, _, zv, zl, zd, At.own (eqS hw) (by exact ⟨rfl, rfl, rfl, rfl, rfl, trivial⟩), ?_⟩
  refine (sameR_spec (hy.ext e4) hz hw).use ?_
  rintro _ w ⟨rfl, hw⟩
  have el := encE_len x
  refine ⟨_, rfl, Br.t rfl ⟨_, strR (eqS hw) (((e2.trans e3).trans e4).slR ht1 |>.ro (by rw [List.length_map]; omega)), _, strR (eqS hw) ((e3.trans e4).slR ht2 |>.ro (by rw [List.length_map]; omega)), ?_⟩⟩
  refine Br.t (by simp) (Br.t (by simp) (Br.t (by simp) ⟨by simp, ?_⟩))
  exact (((e1.trans e2).trans e3).trans e4).back hw.drop.drop.drop

/-! ### Saved on a new disk -/
structure Kept (st : DS) (name : ByteArray) (b : List Int) : Prop where
  inv : Inv st
  calm : Calm st
  get : getM name st.fs = some (whole b)
  by_ : ByOk st.fs

theorem loadSnap_kept {st : DS} {x : SnapM} (ho : st.off = false) (hg : getM snapN st.fs = some (whole (snapB x))) (hk : x.ok = true) (hb : ∀ z ∈ x.data, 0 ≤ z ∧ z < 256) : loadSnapD st = (x, 0) := by
  have hl := snapB_len hk
  unfold loadSnapD
  rw [one_get ho snapN_ok hg (by omega) (snapB_bd hk hb)]
  exact dec_snapB hk
theorem loadHard_kept {st : DS} {t v : Int} (ho : st.off = false) (hg : getM hardN st.fs = some (whole (hardB t v))) (hk : hardOk t v) : loadHardD st = ((t, v), 0) := by
  have h1 := numB_len (n := t.toNat) (by have := hk.1; omega)
  have h2 := numB_len (n := v.toNat) (by have := hk.2; omega)
  unfold loadHardD
  rw [one_get ho hardN_ok hg (by unfold hardB; rw [List.length_append]; omega) (hardB_bd hk)]
  exact dec_enc hk
theorem hardB_len {t v : Int} (hk : hardOk t v) : (hardB t v).length ≤ 18 := by
  have h1 := numB_len (n := t.toNat) (by have := hk.1; omega)
  have h2 := numB_len (n := v.toNat) (by have := hk.2; omega)
  unfold hardB; rw [List.length_append]; omega
theorem by_crash {st : DS} (h : ByOk st.fs) (keep : List Int) : ByOk (crashD st keep).fs := by
  have key : ∀ (ks : List ByteArray) (keep : List Int) (fs : Fs), ByOk fs → ByOk (crashL ks keep fs) := fun ks => by
    induction ks with
    | nil => exact fun _ _ h => h
    | cons k ks ih => exact fun keep fs h => ih _ _ (by_upd h fun f hf x hx => hf x (List.mem_of_mem_take hx))
  exact key _ _ _ h

theorem snaps_law {x : SnapM} {sv sl sd s : Sl} {keep : List Int} (hx : SnapR R x sv sl sd) (hs : RoI R s keep) (hw : Sat R Hs w) :
    Gets Tryz.prog 5 #[.agg (snapVals x.idx x.term sv sl sd).toArray, .slice s.a s.len s.cap] w fun v w' => v = .bool true ∧ Sat R Hs w' := by
  apply call5
  refine new_rule hw fun p w hw => ?_
  have hw : Sat R (pts p (snapCells x.idx x.term sv sl sd) :: Hs) w := hw
  refine (awake_spec hw).use ?_
  rintro _ w ⟨rfl, hw⟩
  refine ⟨true, rfl, Sat R (pts p (snapCells x.idx x.term sv sl sd) :: Hs), ?_, ?_⟩
  · refine Br.f rfl ⟨sd, At.own (eqS hw) (by exact ⟨rfl, trivial⟩), Br.mk (fun h => ⟨rfl, hw.drop⟩) (fun _ => ⟨sv, At.own (eqS hw) (by exact ⟨rfl, trivial⟩), Br.mk (fun h => ⟨rfl, hw.drop⟩) (fun _ => ⟨sl, At.own (eqS hw) (by exact ⟨rfl, trivial⟩), Br.mk (fun h => ⟨rfl, hw.drop⟩) (fun _ => hw)⟩)⟩)⟩
  clear hw
  intro _ w hw
  refine ⟨x.idx, x.term, sv, sl, sd, At.own (eqS hw) (by exact ⟨rfl, rfl, rfl, rfl, rfl, trivial⟩), ?_⟩
  refine (encL_spec hx hw).use ?_
  rintro _ w ⟨t1, R1, rfl, e1, ht1, hw⟩
  refine ⟨t1, _, rfl, ?_⟩
  by_cases hk : x.ok = true
  case neg =>
    have e : encE x = ([], 1) := if_neg hk
    rw [e]
    exact Br.t rfl ⟨rfl, e1.back hw.drop⟩
  have e : encE x = (snapB x, 0) := if_pos hk
  rw [e] at ht1 ⊢
  refine Br.f rfl ?_
  have hbl := snapB_len hk
  have hbb := snapB_bd hk hx.b
  refine (dec_spec hbb (ht1.ro (by rw [List.length_map]; show (snapB x).length ≤ _; omega)) (by show (snapB x).length ≤ _; omega) hw).use ?_
  rintro _ w ⟨yv, yl, yd, rfl, hw⟩
  obtain ⟨R2, e2, hy, hw⟩ := SnapA.leakD hbb hw
  have ed : decSnap (snapB x, (0 : Int)).1 = (x, 0) := dec_snapB hk
  rw [ed] at hy ⊢
  refine ⟨_, _, _, _, _, _, rfl, ?_⟩
  refine new_rule hw fun py w hw => snapPut0 hw fun w hw => ?_
  refine (new_ok (room := 200000) (by omega) (by omega) hw).use ?_
  rintro _ w ⟨d, rfl, hw⟩
  refine ⟨_, _, rfl, Sat R2 (DiskAt d ⟨200000, [], -1, -1, false⟩ :: pts py (snapCells x.idx x.term yv yl yd) :: pts p (snapCells x.idx x.term sv sl sd) :: Hs), Br.f rfl (Br.f rfl hw), ?_⟩
  clear hw
  intro _ w hw
  have hw : Sat R2 (pts p (snapCells x.idx x.term sv sl sd) :: DiskAt d ⟨200000, [], -1, -1, false⟩ :: pts py (snapCells x.idx x.term yv yl yd) :: Hs) w := hw.arr
  refine ⟨x.idx, x.term, sv, sl, sd, At.own (eqS hw) (by exact ⟨rfl, rfl, rfl, rfl, rfl, trivial⟩), ?_⟩
  have hx2 := hx.ext (e1.trans e2)
  have i0 := inv_new (room := 200000) (by omega) (by omega)
  have es : saveSnapD ⟨200000, [], -1, -1, false⟩ x = writeD ⟨200000, [], -1, -1, false⟩ snapN (snapB x) := if_pos hk
  have c1 := write_calm (st := ⟨200000, [], -1, -1, false⟩) (b := snapB x) ⟨rfl, rfl, rfl⟩ i0 snapN_ok snapX_ok snap_ne rfl (by omega) (by rw [total_nil]; dsimp only; omega)
  have g1 := (write_out i0 (b := snapB x) snap_ne).2 c1.1
  have i1 := write_inv i0 snapN (snapB x)
  have b1 := by_write (st := ⟨200000, [], -1, -1, false⟩) (fun _ h => by cases h) snapN hbb
  have l1 := write_len ⟨200000, [], -1, -1, false⟩ snapN (snapB x)
  refine (saveSnap_spec i0 (by simp) hx2.v hx2.l hx2.d hx2.b hw.swap).use ?_
  rintro _ w ⟨rfl, hw⟩
  rw [es] at hw ⊢
  generalize writeD ⟨200000, [], -1, -1, false⟩ snapN (snapB x) = y1 at *
  refine ⟨_, rfl, ?_⟩
  have hs2 := (e1.trans e2).ro hs
  refine (crash_spec i1 hs2 (by dsimp only [List.length_nil] at l1; omega) hw).use ?_
  rintro _ w ⟨rfl, hw⟩
  have i2 := crash_inv i1 keep
  have b2 := by_crash b1 keep
  refine ⟨rfl, ?_⟩
  refine (loadSnap_spec i2 b2 hw).use ?_
  rintro _ w ⟨zv, zl, zd, rfl, hw⟩
  have hl := loadSnap_kept (st := crashD y1.1 keep) rfl (crash_get g1.1) hk hx.b
  rw [hl] at hw ⊢
  obtain ⟨h1, h2, h3, h4, h5, h6, h7, _⟩ := snapOk_out hk
  obtain ⟨R3, e3, hz, hw⟩ := SnapA.leak h5 h6 h7 hx.b hw
  refine ⟨_, _, _, _, _, _, rfl, ?_⟩
  refine new_rule hw fun pz w hw => snapPut0 hw fun w hw => ?_
  refine ⟨_, _, yv, yl, yd, At.own (eqS hw) (by exact ⟨rfl, rfl, rfl, rfl, rfl, trivial⟩), _, _, sv, sl, sd, At.own (eqS hw) (by exact ⟨rfl, rfl, rfl, rfl, rfl, trivial⟩), ?_⟩
  refine (sameR_spec (hy.ext e3) (hx2.ext e3) hw).use ?_
  rintro _ w ⟨rfl, hw⟩
  refine ⟨_, rfl, _, _, zv, zl, zd, At.own (eqS hw) (by exact ⟨rfl, rfl, rfl, rfl, rfl, trivial⟩), _, _, sv, sl, sd, At.own (eqS hw) (by exact ⟨rfl, rfl, rfl, rfl, rfl, trivial⟩), ?_⟩
  refine (sameR_spec hz (hx2.ext e3) hw).use ?_
  rintro _ w ⟨rfl, hw⟩
  refine ⟨_, rfl, Br.t rfl (Br.t (by rw [c1.1]; rfl) (Br.t rfl (Br.t (by simp) ⟨by simp, ?_⟩)))⟩
  have hw : Sat R3 (pts pz (snapCells x.idx x.term zv zl zd) :: DiskAt d (crashD y1.1 keep) :: pts p (snapCells x.idx x.term sv sl sd) :: pts py (snapCells x.idx x.term yv yl yd) :: Hs) w := hw
  exact ((e1.trans e2).trans e3).back hw.drop.drop.drop.drop

end Go.Proofs.YtgfneeoponiibaaGreat
/- KeepApart, KeepAtomic: the laws. No condition. -/
namespace Go.Proofs.YtgfneeoponiibaaGreat
open Go Go.VC

variable {R : Cx} {Hs Rest : List HP} {w : World}

/-- A disk on which all goes well, with room. -/
structure Good (st : DS) (n : Nat) (tot room : Int) : Prop where
  inv : Inv st
  calm : Calm st
  by_ : ByOk st.fs
  len : st.fs.length ≤ n
  tot : total st.fs ≤ tot
  room : st.room = room
  xh : getM (nextOf hardN) st.fs = none
  xs : getM (nextOf snapN) st.fs = none
theorem Good.new {room : Int} (h0 : 1 ≤ room) (h1 : room ≤ 16777216) : Good ⟨room, [], -1, -1, false⟩ 0 0 room :=
  ⟨inv_new h0 h1, ⟨rfl, rfl, rfl⟩, fun _ h => (by cases h), Nat.le_refl _, by rw [total_nil]; omega, rfl, rfl, rfl⟩
theorem Good.hard {st : DS} {n : Nat} {T room : Int} (g : Good st n T room) {t v : Int} (hk : hardOk t v) (hr : T + 26 ≤ room) :
    (saveHardD st t v).2 = 0 ∧ Good (saveHardD st t v).1 (n + 2) (T + 26) room ∧ getM hardN (saveHardD st t v).1.fs = some (whole (hardB t v)) ∧ getM snapN (saveHardD st t v).1.fs = getM snapN st.fs := by
  have e : saveHardD st t v = writeD st hardN (hardB t v) := if_pos hk
  rw [e]
  have hl := hardB_len hk
  have ht := g.tot
  have hrm := g.room
  obtain ⟨c1, c2, c3, c4⟩ := write_calm g.calm g.inv (b := hardB t v) hardN_ok hardX_ok hard_ne g.xh (by omega) (by omega)
  obtain ⟨o1, o2⟩ := (write_out g.inv (b := hardB t v) hard_ne).2 c1
  have l1 := write_len st hardN (hardB t v)
  have hn := g.len
  refine ⟨c1, ⟨write_inv g.inv _ _, c2, by_write g.by_ _ (hardB_bd hk), by omega, by omega, by rw [c4, g.room], o2, ?_⟩, o1, ?_⟩
  · rw [write_get xh_ne (fun h => xx_ne h.symm)]; exact g.xs
  · rw [write_get (fun h => hs_ne h.symm) shx_ne]
theorem Good.snap {st : DS} {n : Nat} {T room : Int} (g : Good st n T room) {x : SnapM} (hk : x.ok = true) (hb : ∀ z ∈ x.data, 0 ≤ z ∧ z < 256) (hr : T + 60408 ≤ room) :
    (saveSnapD st x).2 = 0 ∧ Good (saveSnapD st x).1 (n + 2) (T + 60408) room ∧ getM snapN (saveSnapD st x).1.fs = some (whole (snapB x)) ∧ getM hardN (saveSnapD st x).1.fs = getM hardN st.fs := by
  have e : saveSnapD st x = writeD st snapN (snapB x) := if_pos hk
  rw [e]
  have hl := snapB_len hk
  have ht := g.tot
  have hrm := g.room
  obtain ⟨c1, c2, c3, c4⟩ := write_calm g.calm g.inv (b := snapB x) snapN_ok snapX_ok snap_ne g.xs (by omega) (by omega)
  obtain ⟨o1, o2⟩ := (write_out g.inv (b := snapB x) snap_ne).2 c1
  have l1 := write_len st snapN (snapB x)
  have hn := g.len
  refine ⟨c1, ⟨write_inv g.inv _ _, c2, by_write g.by_ _ (snapB_bd hk hb), by omega, by omega, by rw [c4, g.room], ?_, o2⟩, o1, ?_⟩
  · rw [write_get xs_ne xx_ne]; exact g.xh
  · rw [write_get hs_ne hsx_ne]

abbrev hCells (t v : Int) : Obj := .cells [.int .i64 t, .int .i64 v].toArray 37 (0, 0)
theorem hardPut0 {b : Nat} {t v : Int} {K : World → Prop} (hw : Sat R (pts b (.cells #[.int .i64 0, .int .i64 0] 37 (0, 0)) :: Hs) w) (hk : ∀ w, Sat R (pts b (hCells t v) :: Hs) w → K w) :
    ∃ w_25 : World, ((Instr.storeAt 37 (.pointer ((some ⟨b, 0, none⟩))) (.agg #[.int .i64 t, .int .i64 v])).run Tryz.prog w = .ok () w_25) ∧ K w_25 := by
  have hw : Sat R (pts b (hCells 0 0) :: Hs) w := hw
  refine store_rule hw (by kernel_rfl) rfl (by simp [Value.cells]) fun w hw => hk w ?_
  exact hw.re (pts b (hCells t v))

theorem apart_law {x : SnapM} {sv sl sd : Sl} {ht hv kt kv : Int} (hx : SnapR R x sv sl sd) (hw : Sat R Hs w) :
    Gets Tryz.prog 4 #[.agg #[.int .i64 ht, .int .i64 hv], .agg (snapVals x.idx x.term sv sl sd).toArray, .agg #[.int .i64 kt, .int .i64 kv]] w fun v w' => v = .bool true ∧ Sat R Hs w' := by
  apply call4
  refine new_rule hw fun ph w hw => new_rule hw fun p w hw => new_rule hw fun pk w hw => ?_
  have hw : Sat R (pts pk (hCells kt kv) :: pts p (snapCells x.idx x.term sv sl sd) :: pts ph (hCells ht hv) :: Hs) w := hw
  refine (awake_spec hw).use ?_
  rintro _ w ⟨rfl, hw⟩
  refine ⟨true, rfl, Sat R (pts pk (hCells kt kv) :: pts p (snapCells x.idx x.term sv sl sd) :: pts ph (hCells ht hv) :: Hs), ?_, ?_⟩
  · refine Br.f rfl ⟨sd, At.own (eqS hw) (by exact ⟨rfl, trivial⟩), Br.mk (fun h => ⟨rfl, hw.drop.drop.drop⟩) (fun _ => ⟨sv, At.own (eqS hw) (by exact ⟨rfl, trivial⟩), Br.mk (fun h => ⟨rfl, hw.drop.drop.drop⟩) (fun _ => ⟨sl, At.own (eqS hw) (by exact ⟨rfl, trivial⟩), Br.mk (fun h => ⟨rfl, hw.drop.drop.drop⟩) (fun _ => hw)⟩)⟩)⟩
  clear hw
  intro _ w hw
  refine (new_ok (room := 300000) (by omega) (by omega) hw).use ?_
  rintro _ w ⟨d, rfl, hw⟩
  refine ⟨_, _, rfl, Sat R (DiskAt d ⟨300000, [], -1, -1, false⟩ :: pts pk (hCells kt kv) :: pts p (snapCells x.idx x.term sv sl sd) :: pts ph (hCells ht hv) :: Hs), Br.f rfl (Br.f rfl hw), ?_⟩
  clear hw
  intro _ w hw
  have g0 := Good.new (room := 300000) (by omega) (by omega)
  refine ⟨ht, hv, At.own (eqS hw) (by exact ⟨rfl, rfl, trivial⟩), ?_⟩
  refine (saveHard_spec (t := ht) (v := hv) g0.inv (by simp) hw).use ?_
  rintro _ w ⟨rfl, hw⟩
  refine ⟨_, rfl, x.idx, x.term, sv, sl, sd, At.own (eqS hw) (by exact ⟨rfl, rfl, rfl, rfl, rfl, trivial⟩), ?_⟩
  have il : Inv (saveHardD ⟨300000, [], -1, -1, false⟩ ht hv).1 ∧ (saveHardD ⟨300000, [], -1, -1, false⟩ ht hv).1.fs.length ≤ 1000000 := by
    by_cases hk : hardOk ht hv
    · have g1 := (g0.hard hk (by omega)).2.1
      exact ⟨g1.inv, by have := g1.len; omega⟩
    · have e : saveHardD ⟨300000, [], -1, -1, false⟩ ht hv = (⟨300000, [], -1, -1, false⟩, 1) := if_neg hk
      rw [e]; exact ⟨g0.inv, by simp⟩
  refine (saveSnap_spec il.1 il.2 hx.v hx.l hx.d hx.b hw).use ?_
  rintro _ w ⟨rfl, hw⟩
  refine ⟨_, rfl, ?_⟩
  by_cases hk : hardOk ht hv
  case neg =>
    have e : saveHardD ⟨300000, [], -1, -1, false⟩ ht hv = (⟨300000, [], -1, -1, false⟩, 1) := if_neg hk
    rw [e]
    exact ⟨fun _ => False, Br.t rfl (Br.t rfl ⟨rfl, hw.drop.drop.drop.drop⟩), fun _ _ h => h.elim⟩
  obtain ⟨a1, g1, a2, a3⟩ := g0.hard hk (by omega)
  rw [a1]
  generalize (saveHardD ⟨300000, [], -1, -1, false⟩ ht hv).1 = st1 at *
  by_cases hxk : x.ok = true
  case neg =>
    have e : saveSnapD st1 x = (st1, 1) := if_neg hxk
    rw [e]
    exact ⟨fun _ => False, Br.f rfl (Br.t rfl (Br.f rfl ⟨rfl, hw.drop.drop.drop.drop⟩)), fun _ _ h => h.elim⟩
  obtain ⟨b1, g2, b2, b3⟩ := g1.snap hxk hx.b (by omega)
  rw [b1]
  generalize (saveSnapD st1 x).1 = st2 at *
  refine ⟨Sat R (DiskAt d st2 :: pts pk (hCells kt kv) :: pts p (snapCells x.idx x.term sv sl sd) :: pts ph (hCells ht hv) :: Hs), Br.f rfl (Br.f rfl hw), ?_⟩
  clear hw
  intro _ w hw
  refine (loadHard_spec g2.inv g2.by_ hw).use ?_
  rintro _ w ⟨rfl, hw⟩
  rw [loadHard_kept g2.calm.off (b3.trans a2) hk]
  refine ⟨ht, hv, 0, rfl, ?_⟩
  refine new_rule hw fun px w hw => hardPut0 hw fun w hw => ?_
  refine ⟨kt, kv, At.own (eqS hw) (by exact ⟨rfl, rfl, trivial⟩), ?_⟩
  refine (saveHard_spec (t := kt) (v := kv) g2.inv (by have := g2.len; omega) hw.swap).use ?_
  rintro _ w ⟨rfl, hw⟩
  refine ⟨_, rfl, ?_⟩
  obtain ⟨n3, T3, g3, c3⟩ : ∃ n3 T3, Good (saveHardD st2 kt kv).1 n3 T3 300000 ∧ getM snapN (saveHardD st2 kt kv).1.fs = getM snapN st2.fs := by
    by_cases hkk : hardOk kt kv
    · have := g2.hard hkk (by omega)
      exact ⟨_, _, this.2.1, this.2.2.2⟩
    · have e : saveHardD st2 kt kv = (st2, 1) := if_neg hkk
      rw [e]; exact ⟨_, _, g2, rfl⟩
  generalize (saveHardD st2 kt kv).1 = st3 at *
  refine (loadSnap_spec g3.inv g3.by_ hw).use ?_
  rintro _ w ⟨zv, zl, zd, rfl, hw⟩
  have hl := loadSnap_kept (st := st3) g3.calm.off (c3.trans b2) hxk hx.b
  rw [hl] at hw ⊢
  obtain ⟨h1, h2, h3, h4, h5, h6, h7, _⟩ := snapOk_out hxk
  obtain ⟨R3, e3, hz, hw⟩ := SnapA.leak h5 h6 h7 hx.b hw
  refine ⟨_, _, _, _, _, _, rfl, ?_⟩
  refine new_rule hw fun pz w hw => snapPut0 hw fun w hw => ?_
  refine ⟨_, _, zv, zl, zd, At.own (eqS hw) (by exact ⟨rfl, rfl, rfl, rfl, rfl, trivial⟩), _, _, sv, sl, sd, At.own (eqS hw) (by exact ⟨rfl, rfl, rfl, rfl, rfl, trivial⟩), ?_⟩
  refine (sameR_spec hz (hx.ext e3) hw).use ?_
  rintro _ w ⟨rfl, hw⟩
  refine ⟨_, rfl, Br.t rfl (Br.t rfl ⟨ht, hv, At.own (eqS hw) (by exact ⟨rfl, rfl, trivial⟩), ht, hv, At.own (eqS hw) (by exact ⟨rfl, rfl, trivial⟩), _, fun w' _ => hard_eql _ _ _ _ _ _ w', Br.t (by simp) ⟨by simp, ?_⟩⟩)⟩
  have hw : Sat R3 (pts pz (snapCells x.idx x.term zv zl zd) :: DiskAt d st3 :: pts px (hCells ht hv) :: pts pk (hCells kt kv) :: pts p (snapCells x.idx x.term sv sl sd) :: pts ph (hCells ht hv) :: Hs) w := hw
  exact e3.back hw.drop.drop.drop.drop.drop.drop

end Go.Proofs.YtgfneeoponiibaaGreat
/- Reference 07: hard states and snapshots on a disk. Condition: bounds on how many files there are; the files' bytes are bytes. -/
namespace Go.Proofs.YtgfneeoponiibaaGreat
open Go Go.VC

variable {R : Cx} {Hs Rest : List HP} {w : World}

theorem rhardB_spec {t v : Int} (hk : hardOk t v) (hw : Sat R Hs w) :
    Gets Tryz.prog 64 #[.agg #[.int .i64 t, .int .i64 v]] w fun r w' => ∃ s : Sl, r = .slice s.a s.len s.cap ∧ Sat R (Own s 5 (b8 (hardB t v)) :: Hs) w' := by
  apply call64
  refine new_rule hw fun p w hw => ?_
  have hw : Sat R (pts p (hCells t v) :: Hs) w := hw
  refine drw_rule' (Sat R [pts p (hCells t v), VC.tru]) hw (fun w hw => hw.restTru) fun w hw => ?_
  refine ⟨t, At.own selfS (by exact ⟨rfl, trivial⟩), v, At.own selfS (by exact ⟨rfl, trivial⟩), ?_⟩
  obtain ⟨⟨h1, h2⟩, h3, h4⟩ := hk
  obtain ⟨i, rfl⟩ := Int.eq_ofNat_of_zero_le h1
  obtain ⟨j, rfl⟩ := Int.eq_ofNat_of_zero_le h3
  have l1 := numB_len (n := i) (by omega)
  have l2 := numB_len (n := j) (by omega)
  rw [wrapU64 (x := (i : Int)) (by omega) (by omega), wrapU64 (x := (j : Int)) (by omega) (by omega)]
  refine (rnumber_spec (by omega) hw).use ?_
  rintro _ w ⟨t1, rfl, hw⟩
  refine ⟨t1, rfl, hw.swap.restTru, ?_⟩
  refine (rnumber_spec (by omega) hw).use ?_
  rintro _ w ⟨t2, rfl, hw⟩
  have hwp : Sat R (pts p (hCells i j) :: Own t1 5 (b8 (numB i)) :: Own t2 5 (b8 (numB j)) :: Hs) w := hw.arr
  refine ⟨t2, rfl, hwp.restTru, ?_⟩
  refine appendOO elB8 (s := t1) (n := 70000) Tryz.underlying25 hw.swap (by omega) (by omega) (by omega) fun t3 w hw => ?_
  have hwp : Sat R (pts p (hCells i j) :: Own t2 5 (b8 (numB j)) :: Own t3 5 (b8 (numB i ++ numB j)) :: Hs) w := hw.arr
  refine ⟨hwp.restTru, t3, rfl, ?_⟩
  have e : hardB (i : Int) (j : Int) = numB i ++ numB j := rfl
  rw [e]
  exact hwp.drop.drop

/-! ### Writing -/
def goR (st : DS) (name : ByteArray) (b : List Int) : DS × Int :=
  if (appendR st (nextOf name) (recB b)).2 ≠ 0 then appendR st (nextOf name) (recB b)
  else if (syncD (appendR st (nextOf name) (recB b)).1 (nextOf name)).2 ≠ 0 then syncD (appendR st (nextOf name) (recB b)).1 (nextOf name)
  else renameR (syncD (appendR st (nextOf name) (recB b)).1 (nextOf name)).1 (nextOf name) name
def writeR (st : DS) (name : ByteArray) (b : List Int) : DS × Int :=
  if b.length > 65536 then (st, 3)
  else if nextOf name ∈ st.fs.map (·.1) then
    if (unlinkD st (nextOf name)).2 ≠ 0 then unlinkD st (nextOf name) else goR (unlinkD st (nextOf name)).1 name b
  else goR st name b

theorem Rel.go {a b : DS} (h : Rel a b) (name : ByteArray) (x : List Int) : Rel (writeGo a name x).1 (goR b name x).1 ∧ (writeGo a name x).2 = (goR b name x).2 := by
  obtain ⟨h1, e1⟩ := h.append (nextOf name) (recB x)
  obtain ⟨h2, e2⟩ := h1.sync (nextOf name)
  obtain ⟨h3, e3⟩ := h2.rename (nextOf name) name
  unfold writeGo goR
  rw [e1, e2]
  split
  · exact ⟨h1, e1⟩
  · split
    · exact ⟨h2, e2⟩
    · exact ⟨h3, e3⟩
theorem Rel.write {a b : DS} (h : Rel a b) (name : ByteArray) (x : List Int) : Rel (writeD a name x).1 (writeR b name x).1 ∧ (writeD a name x).2 = (writeR b name x).2 := by
  obtain ⟨h1, e1⟩ := h.unlink (nextOf name)
  unfold writeD writeR
  rw [h.names, e1]
  split
  · exact ⟨h, rfl⟩
  · split
    · split
      · exact ⟨h1, e1⟩
      · exact h1.go name x
    · exact h.go name x

theorem nameOk_le {k : ByteArray} (h : nameOk k = true) : k.size ≤ 64 := nameOk_size h

theorem rel_lenR {a b : DS} (h : Rel a b) : a.fs.length = b.fs.length := h.perm.length_eq

/-- The reference's disk, such that there is a disk which is alike. -/
structure Twin (st : DS) : Prop where
  ex : ∃ a, Rel a st
  len : st.fs.length ≤ 90000
theorem Twin.inv {st : DS} (h : Twin st) : Inv st := h.ex.elim fun _ r => r.invR

theorem rwrite_spec {r : Nat} {st : DS} {name : ByteArray} {t : Sl} {b : List Int} (h : Twin st) (hx : nameOk (nextOf name) = true) (hn : nameOk name = true) (hb : ∀ x ∈ b, 0 ≤ x ∧ x < 256) (hs : Ro R t (b8 b)) (hw : Sat R (RefAt r st :: Hs) w) :
    Gets Tryz.prog 63 #[.pointer (some ⟨r, 0, none⟩), .string name, .slice t.a t.len t.cap] w fun v w' => v = .int .i64 (writeR st name b).2 ∧ Sat R (RefAt r (writeR st name b).1 :: Hs) w' := by
  have hns := nameOk_size hn
  have hxs := nameOk_size hx
  obtain ⟨⟨a, ra⟩, hlen⟩ := h
  have inv := ra.invR
  have size4 : (name.size + (ByteArray.mk #[46, 110, 101, 119]).size : Nat) = (nextOf name).size := by unfold nextOf; rw [ByteArray.size_append]
  apply call63
  refine (rp_spec hb hs hw).use ?_
  rintro _ w (⟨h1, rfl, hw⟩ | ⟨h1, t1, rfl, hw⟩)
  · refine ⟨⟨none, 0, 0⟩, 3, rfl, Br.t rfl ?_⟩
    have e : writeR st name b = (st, 3) := if_pos h1
    rw [e]; exact ⟨rfl, hw⟩
  refine ⟨t1, 0, rfl, Br.f rfl ?_⟩
  obtain ⟨R1, x1, s1, hw⟩ := Own.leak hw
  have hrl := recB_len b
  have ro1 := s1.ro (by rw [List.length_map]; omega)
  have e0 : writeR st name b = if nextOf name ∈ st.fs.map (·.1) then (if (unlinkD st (nextOf name)).2 ≠ 0 then unlinkD st (nextOf name) else goR (unlinkD st (nextOf name)).1 name b) else goR st name b := if_neg (by omega)
  obtain ⟨sl, E, hE, hw⟩ := Sat.ref.1 hw
  have hEl : E.length = st.fs.length := by rw [← hE]; simp [erR]
  refine (namesR_spec hE (by omega) hw).use ?_
  rintro _ w ⟨t2, rfl, hw⟩
  have hw := hw.cons fun _ h => RO.shut hE h
  refine ⟨t2, rfl, ?_⟩
  obtain ⟨R2, x2, s2, hw⟩ := Own.leak hw
  have ro2 := s2.ro (by rw [List.length_map, List.length_map]; omega)
  have ro1 := x2.ro ro1
  have hl2 : t2.len = st.fs.length := by have := ro2.len; simpa using this
  have nd : (st.fs.map (·.1)).Nodup := inv.uni
  have back : ∀ {w}, Sat R2 (RefAt r (writeR st name b).1 :: Hs) w → Sat R (RefAt r (writeR st name b).1 :: Hs) w := fun hw => x1.back (x2.back hw)
  refine ⟨fun i w => ∃ k : Nat, i = k ∧ k ≤ st.fs.length ∧ ((nextOf name ∉ (st.fs.map (·.1)).take k ∧ Sat R2 (RefAt r st :: Hs) w) ∨ (nextOf name ∈ (st.fs.map (·.1)).take k ∧ (unlinkD st (nextOf name)).2 = 0 ∧ Sat R2 (RefAt r (unlinkD st (nextOf name)).1 :: Hs) w)), fun i _ => st.fs.length - i.toNat, ⟨0, rfl, by omega, .inl ⟨by simp, hw⟩⟩, ?_⟩
  clear hw
  rintro _ _ w ⟨k, rfl, hk, hw⟩
  refine Br.d (fun h => ?_) (fun h => ?_)
  · have hkl : k < (st.fs.map (·.1)).length := by rw [List.length_map]; omega
    have tk : (st.fs.map (·.1)).take (k + 1) = (st.fs.map (·.1)).take k ++ [(st.fs.map (·.1))[k]] := by rw [List.take_add_one, List.getElem?_eq_getElem hkl]; rfl
    have hS : ∃ Hs', Sat R2 Hs' w := by
      rcases hw with ⟨_, hw⟩ | ⟨_, _, hw⟩
      · exact ⟨_, hw⟩
      · exact ⟨_, hw⟩
    obtain ⟨Hs', hw'⟩ := hS
    refine ro2.idxStr (eqS hw') hkl ⟨by rw [size4]; omega, ?_⟩
    have hwr : IntKind.i64.wrap ((k : Int) + 1) = ((k + 1 : Nat) : Int) := by rw [wrap64 (by omega) (by omega)]; omega
    rw [hwr]
    refine Br.se (y := nextOf name) (fun he => ?_) (fun he => ?_)
    · refine ro2.idxStr (eqS hw') hkl ?_
      rcases hw with ⟨hno, hw⟩ | ⟨hyes, _, _⟩
      · rw [he]
        refine (unlinkR_spec inv (by omega) (by omega) hw).use ?_
        rintro _ w ⟨rfl, hw⟩
        have hm : nextOf name ∈ st.fs.map (·.1) := by rw [← he]; exact List.getElem_mem _
        rw [if_pos hm] at e0
        refine ⟨_, rfl, Br.ne (fun h1 => ?_) (fun h1 => ?_)⟩
        · rw [if_pos h1] at e0
          rw [e0] at back ⊢
          exact ⟨rfl, back hw⟩
        · refine ⟨⟨k + 1, by omega, by omega, .inr ⟨?_, h1, hw⟩⟩, by dsimp only; omega⟩
          rw [tk, he]; simp
      · exfalso
        rw [← List.take_append_drop k (st.fs.map (·.1)), List.nodup_append] at nd
        refine nd.2.2 _ hyes (nextOf name) ?_ rfl
        rw [List.drop_eq_getElem_cons hkl, he]
        exact List.mem_cons_self ..
    · refine ⟨⟨k + 1, by omega, by omega, ?_⟩, by dsimp only; omega⟩
      rw [tk]
      rcases hw with ⟨hno, hw⟩ | ⟨hyes, hu, hw⟩
      · refine .inl ⟨?_, hw⟩
        rw [List.mem_append, List.mem_singleton]
        rintro (h2 | h2)
        · exact hno h2
        · exact he h2.symm
      · exact .inr ⟨List.mem_append_left _ hyes, hu, hw⟩
  · have hkk : k = (st.fs.map (·.1)).length := by rw [List.length_map]; omega
    subst hkk
    rw [List.take_length] at hw
    obtain ⟨st1, ⟨a1, r1⟩, hlen1, e1, hw⟩ : ∃ st1, (∃ a, Rel a st1) ∧ st1.fs.length ≤ 90000 ∧ writeR st name b = goR st1 name b ∧ Sat R2 (RefAt r st1 :: Hs) w := by
      rcases hw with ⟨hno, hw⟩ | ⟨hyes, hu, hw⟩
      · exact ⟨st, ⟨a, ra⟩, hlen, by rw [e0, if_neg hno], hw⟩
      · refine ⟨_, ⟨_, (ra.unlink (nextOf name)).1⟩, ?_, by rw [e0, if_pos hyes, if_neg (by rw [hu]; simp)], hw⟩
        have := unlink_len st (nextOf name); omega
    rw [e1] at back ⊢
    clear e0 e1
    obtain ⟨ra1, _⟩ := r1.append (nextOf name) (recB b)
    obtain ⟨rs1, _⟩ := ra1.sync (nextOf name)
    have la : (appendR st1 (nextOf name) (recB b)).1.fs.length ≤ 90001 := by
      have := append_len a1 (nextOf name) (recB b)
      rw [← rel_lenR ra1]; rw [← rel_lenR r1] at hlen1; omega
    have ls := sync_len (appendR st1 (nextOf name) (recB b)).1 (nextOf name)
    refine ⟨by rw [size4]; omega, (appendR_spec (k := nextOf name) r1.invR (by omega) (by omega) ro1 (by omega) hw).use ?_⟩
    rintro _ w ⟨rfl, hw⟩
    have hw : Sat R2 (RefAt r (appendR st1 (nextOf name) (recB b)).1 :: Hs) w := hw
    refine ⟨_, rfl, ?_⟩
    show Br ((appendR st1 (nextOf name) (recB b)).2 != 0) _ _
    refine Br.ne (fun h1 => ?_) (fun h1 => ⟨by rw [size4]; omega, ?_⟩)
    · have e : goR st1 name b = appendR st1 (nextOf name) (recB b) := if_pos h1
      rw [e] at back ⊢
      exact ⟨rfl, back hw⟩
    refine (syncR_spec (k := nextOf name) ra1.invR (by omega) (by omega) hw).use ?_
    rintro _ w ⟨rfl, hw⟩
    refine ⟨_, rfl, Br.ne (fun h2 => ?_) (fun h2 => ⟨by rw [size4]; omega, ?_⟩)⟩
    · have e : goR st1 name b = syncD (appendR st1 (nextOf name) (recB b)).1 (nextOf name) := by unfold goR; rw [if_neg (by rw [h1]; simp), if_pos h2]
      rw [e] at back ⊢
      exact ⟨rfl, back hw⟩
    refine (renameR_spec (k := nextOf name) (to := name) rs1.invR (by omega) (by omega) (by omega) hw).use ?_
    rintro _ w ⟨rfl, hw⟩
    have e : goR st1 name b = renameR (syncD (appendR st1 (nextOf name) (recB b)).1 (nextOf name)).1 (nextOf name) name := by unfold goR; rw [if_neg (by rw [h1]; simp), if_neg (by rw [h2]; simp)]
    rw [e] at back ⊢
    exact ⟨_, rfl, rfl, back hw⟩

end Go.Proofs.YtgfneeoponiibaaGreat
/- Reference 07: saving and loading. Condition: bounds on how many files there are; the files' bytes are bytes. -/
namespace Go.Proofs.YtgfneeoponiibaaGreat
open Go Go.VC

variable {R : Cx} {Hs Rest : List HP} {w : World}

def saveHardR (st : DS) (t v : Int) : DS × Int := if hardOk t v then writeR st hardN (hardB t v) else (st, 1)
def saveSnapR (st : DS) (x : SnapM) : DS × Int := if x.ok = true then writeR st snapN (snapB x) else (st, 1)
theorem Rel.saveHard {a b : DS} (h : Rel a b) (t v : Int) : Rel (saveHardD a t v).1 (saveHardR b t v).1 ∧ (saveHardD a t v).2 = (saveHardR b t v).2 := by
  unfold saveHardD saveHardR
  split
  · exact h.write _ _
  · exact ⟨h, rfl⟩
theorem Rel.saveSnap {a b : DS} (h : Rel a b) (x : SnapM) : Rel (saveSnapD a x).1 (saveSnapR b x).1 ∧ (saveSnapD a x).2 = (saveSnapR b x).2 := by
  unfold saveSnapD saveSnapR
  split
  · exact h.write _ _
  · exact ⟨h, rfl⟩
theorem Rel.one {a b : DS} (h : Rel a b) (k : ByteArray) : oneD a k = oneD b k := by unfold oneD; rw [h.read]
theorem Rel.loadHard {a b : DS} (h : Rel a b) : loadHardD a = loadHardD b := by unfold loadHardD; rw [h.one]
theorem Rel.loadSnap {a b : DS} (h : Rel a b) : loadSnapD a = loadSnapD b := by unfold loadSnapD; rw [h.one]
theorem Rel.by_ {a b : DS} (h : Rel a b) (hb : ByOk a.fs) : ByOk b.fs := fun e he => hb e (h.perm.mem_iff.2 he)

theorem rsaveHard_spec {r : Nat} {st : DS} {t v : Int} (h : Twin st) (hw : Sat R (RefAt r st :: Hs) w) :
    Gets Tryz.prog 24 #[.pointer (some ⟨r, 0, none⟩), .agg #[.int .i64 t, .int .i64 v]] w fun y w' => y = .int .i64 (saveHardR st t v).2 ∧ Sat R (RefAt r (saveHardR st t v).1 :: Hs) w' := by
  apply call24
  refine new_rule hw fun p w hw => ?_
  have hw : Sat R (pts p (hCells t v) :: RefAt r st :: Hs) w := hw
  refine ⟨t, v, At.own (eqS hw) (by exact ⟨rfl, rfl, trivial⟩), ?_⟩
  refine (rhard_spec _ _ hw).use ?_
  rintro _ w ⟨rfl, hw⟩
  refine ⟨_, rfl, Br.f rfl (Br.nd (fun h => ?_) (fun hk => ?_))⟩
  · have e : saveHardR st t v = (st, 1) := if_neg h
    rw [e]; exact ⟨rfl, hw.drop⟩
  have e : saveHardR st t v = writeR st hardN (hardB t v) := if_pos hk
  rw [e]
  refine ⟨t, v, At.own (eqS hw) (by exact ⟨rfl, rfl, trivial⟩), ?_⟩
  refine (rhardB_spec hk hw.drop).use ?_
  rintro _ w ⟨s, rfl, hw⟩
  have hl := hardB_len hk
  obtain ⟨R1, x1, s1, hw⟩ := Own.leak hw
  refine ⟨s, rfl, (rwrite_spec (name := hardN) h hardX_ok hardN_ok (hardB_bd hk) (s1.ro (by rw [List.length_map]; omega)) hw).use ?_⟩
  rintro _ w ⟨rfl, hw⟩
  exact ⟨_, rfl, rfl, x1.back hw⟩

theorem rsaveSnap_spec {r : Nat} {st : DS} {x : SnapM} {sv sl sd : Sl} (h : Twin st) (hx : SnapR R x sv sl sd) (hw : Sat R (RefAt r st :: Hs) w) :
    Gets Tryz.prog 25 #[.pointer (some ⟨r, 0, none⟩), .agg (snapVals x.idx x.term sv sl sd).toArray] w fun y w' => y = .int .i64 (saveSnapR st x).2 ∧ Sat R (RefAt r (saveSnapR st x).1 :: Hs) w' := by
  apply call25
  refine new_rule hw fun p w hw => ?_
  have hw : Sat R (pts p (snapCells x.idx x.term sv sl sd) :: RefAt r st :: Hs) w := hw
  refine ⟨x.idx, x.term, sv, sl, sd, At.own (eqS hw) (by exact ⟨rfl, rfl, rfl, rfl, rfl, trivial⟩), ?_⟩
  refine (rencL_spec hx hw).use ?_
  rintro _ w ⟨t, R1, rfl, x1, s1, hw⟩
  refine ⟨t, _, rfl, Br.f rfl ?_⟩
  by_cases hk : x.ok = true
  · have e : saveSnapR st x = writeR st snapN (snapB x) := if_pos hk
    have e2 : encE x = (snapB x, 0) := if_pos hk
    rw [e]
    rw [e2] at s1 ⊢
    have hl := snapB_len hk
    refine Br.f rfl ((rwrite_spec (name := snapN) h snapX_ok snapN_ok (snapB_bd hk hx.b) (s1.ro (by rw [List.length_map]; dsimp only; omega)) hw.drop).use ?_)
    rintro _ w ⟨rfl, hw⟩
    exact ⟨_, rfl, rfl, x1.back hw⟩
  · have e : saveSnapR st x = (st, 1) := if_neg hk
    have e2 : encE x = ([], 1) := if_neg hk
    rw [e, e2]
    exact Br.t rfl ⟨rfl, x1.back hw.drop⟩

theorem rread_spec {r : Nat} {st : DS} {name : ByteArray} (h : Twin st) (hn : nameOk name = true) (hby : ByOk st.fs) (hw : Sat R (RefAt r st :: Hs) w) :
    Gets Tryz.prog 70 #[.pointer (some ⟨r, 0, none⟩), .string name] w fun y w' => ∃ (t : Sl) (is : Bool) (R' : Cx), y = .tuple #[.slice t.a t.len t.cap, .bool is, .int .i64 (oneD st name).2] ∧ R.Ext R' ∧ Sat R' (RefAt r st :: Hs) w' ∧
      ((∃ b, oneD st name = (some b, 0) ∧ is = true ∧ SlR R'.m t (b8 b) ∧ b.length ≤ 65536 ∧ Byt b) ∨ ((oneD st name).1 = none ∧ ((oneD st name).2 ≠ 0 ∨ is = false))) := by
  have hns := nameOk_size hn
  have inv := h.inv
  have hlen := h.len
  apply call70
  refine (readR_spec (k := name) inv (by omega) (by omega) hw).use ?_
  rintro _ w ⟨t, rfl, hw⟩
  have hb := by_read hby name
  have hbl := readD_len inv name
  refine ⟨t, _, rfl, Br.e (fun h2 => ?_) (fun h2 => Br.ne (fun h0 => ?_) (fun h0 => ?_))⟩
  · have e : oneD st name = (none, 0) := by unfold oneD; rw [if_neg (by omega), if_pos h2]
    rw [e]
    exact ⟨⟨none, 0, 0⟩, false, R, rfl, .refl, hw.drop, .inr ⟨rfl, .inr rfl⟩⟩
  · have e : oneD st name = (none, (readD st name).2) := by unfold oneD; rw [if_neg h0, if_neg h2]
    rw [e]
    exact ⟨⟨none, 0, 0⟩, false, R, rfl, .refl, hw.drop, .inr ⟨rfl, .inl h0⟩⟩
  obtain ⟨R1, x1, s1, hw⟩ := Own.leak hw
  have hsl : t.len = (readD st name).1.length := by have := s1.len; simpa using this
  refine (rscan_spec hb (by omega) s1 hw).use ?_
  rintro _ w ⟨l, rfl, hw⟩
  have hll := scanLen_le _ (readD st name).1 (Nat.le_refl _)
  have hl8 := len_scanLen (scan (readD st name).1)
  have hlen := BytesL.reads hw (by omega)
  have bad : recOf (readD st name).1 = none → oneD st name = (none, 6) := fun hr => by unfold oneD; rw [if_pos h0, hr]
  refine ⟨l, _, rfl, Br.ne (fun h1 => ?_) (fun h1 => Br.ne (fun h2 => ?_) (fun h2 => ?_))⟩
  · have hr : recOf (readD st name).1 = none := by
      unfold recOf
      split
      · rename_i y hy; rw [hy] at hlen; rw [hlen] at h1; exact absurd rfl h1
      · rfl
    rw [bad hr]
    exact ⟨⟨none, 0, 0⟩, true, R1, rfl, x1, hw.drop, .inr ⟨rfl, .inl (by simp)⟩⟩
  · have hr : recOf (readD st name).1 = none := by
      unfold recOf
      split
      · rw [if_neg]; intro h3; rw [h3, hsl] at h2; exact h2 rfl
      · rfl
    rw [bad hr]
    exact ⟨⟨none, 0, 0⟩, true, R1, rfl, x1, hw.drop, .inr ⟨rfl, .inl (by simp)⟩⟩
  · obtain ⟨y, hy, hrec⟩ := recOf_of_one hlen h1 h2 (by rw [hsl])
    obtain ⟨hyl, hyb, _, _⟩ := recOf_ok hb hrec
    rw [hy] at hw
    obtain ⟨s, R2, x2, hl2, hs2, hw⟩ := BytesL.first hw
    have := Ro.idxS (S := fun w' => w' = w) (ms := [s]) hl2 (eqS hw) (k := 0) (by simp) (F := fun t => t = s) rfl
    obtain ⟨h0', h1', this⟩ := this.out
    obtain ⟨a, ha, t', hat, rfl⟩ := this.out
    have e : oneD st name = (some y, 0) := by unfold oneD; rw [if_pos h0, hrec]
    rw [e]
    exact Rng.mk h0' h1' (NilP.mk ha ⟨_, hat, t', true, R2, rfl, x1.trans x2, hw, .inl ⟨y, rfl, rfl, hs2, hyl, hyb⟩⟩)

theorem rloadHard_spec {r : Nat} {st : DS} (h : Twin st) (hby : ByOk st.fs) (hw : Sat R (RefAt r st :: Hs) w) :
    Gets Tryz.prog 32 #[.pointer (some ⟨r, 0, none⟩)] w fun y w' => y = .tuple #[.agg #[.int .i64 (loadHardD st).1.1, .int .i64 (loadHardD st).1.2], .int .i64 (loadHardD st).2] ∧ Sat R (RefAt r st :: Hs) w' := by
  apply call32
  suffices H : ∀ K : Value → World → Prop, (∀ w', Sat R (RefAt r st :: Hs) w' → K (.tuple #[.agg #[.int .i64 (loadHardD st).1.1, .int .i64 (loadHardD st).1.2], .int .i64 (loadHardD st).2]) w') → B32 (some ⟨r, 0, none⟩) K w from H _ fun w' hw' => ⟨rfl, hw'⟩
  intro K hK
  refine new_rule hw fun bt w hw => Br.f rfl ?_
  have hw : Sat R (hZ bt :: RefAt r st :: Hs) w := hw
  refine (rread_spec (name := hardN) h hardN_ok hby hw.swap).use ?_
  rintro _ w ⟨t, is, R1, rfl, x1, hw, ho⟩
  have hw := hw.swap
  refine ⟨t, is, _, rfl, ?_⟩
  rcases ho with ⟨b, e, rfl, s1, hbl, hb⟩ | ⟨e, ho⟩
  rotate_left
  · refine ⟨fun _ => False, ?_, fun _ _ h => h.elim⟩
    have hl : loadHardD st = ((0, 0), (oneD st hardN).2) := by
      unfold loadHardD
      rw [show oneD st hardN = (none, (oneD st hardN).2) from Prod.ext e rfl]
    rw [hl] at hK
    refine Br.ne (fun h1 => hardRet hw fun w hw => hK w (x1.back hw)) (fun h1 => Br.nb (fun h2 => hardRet hw fun w hw => hK w (x1.back hw)) (fun h2 => ?_))
    rcases ho with ho | ho
    · exact absurd h1 ho
    · rw [ho] at h2; cases h2
  have hl : loadHardD st = decHard b := by unfold loadHardD; rw [e]
  rw [hl] at hK
  rw [e]
  refine ⟨Sat R1 (hZ bt :: RefAt r st :: Hs), Br.f rfl (Br.f rfl hw), ?_⟩
  clear hw
  intro _ w hw
  refine new_rule hw fun p w hw => ?_
  have hw : Sat R1 (RRdAt p t b ⟨b, false⟩ :: hZ bt :: RefAt r st :: Hs) w := by
    have hw : Sat R1 (pts p (rrCells t 0 false) :: hZ bt :: RefAt r st :: Hs) w := hw
    exact Sat.rrd.2 ⟨0, ⟨by omega, rfl⟩, hw⟩
  have hb0 : ∀ y ∈ (⟨b, false⟩ : Rd).bs, 0 ≤ y ∧ y < 256 := hb
  have v1 := rdNum_val (most := 1099511627776) hb0 (by omega)
  have hb1 := rdNum_bd (most := 1099511627776) hb0
  have v2 := rdNum_val (most := 15) hb1 (by omega)
  refine (rrnum_spec (by omega) hb s1 hw).use ?_
  rintro _ w ⟨rfl, hw⟩
  refine ⟨_, rfl, (rrnum_spec (by omega) hb s1 hw).use ?_⟩
  rintro _ w ⟨rfl, hw⟩
  refine ⟨_, rfl, new_rule hw fun p2 w hw => ?_⟩
  rw [wrap64 (x := (rdNum 1099511627776 ⟨b, false⟩).1) (by omega) (by omega), wrap64 (x := (rdNum 15 (rdNum 1099511627776 ⟨b, false⟩).2).1) (by omega) (by omega)]
  refine hardPut0 hw fun w hw => ?_
  refine (rrwhole_spec s1 hw.swap).use ?_
  rintro _ w ⟨rfl, hw⟩
  have hw : Sat R1 (hZ bt :: pts p2 (hCells (rdNum 1099511627776 ⟨b, false⟩).1 (rdNum 15 (rdNum 1099511627776 ⟨b, false⟩).2).1) :: RRdAt p t b (rdNum 15 (rdNum 1099511627776 ⟨b, false⟩).2).2 :: RefAt r st :: Hs) w := hw.arr
  refine ⟨_, rfl, Br.nb (fun h => ?_) (fun h => ?_)⟩
  · have ed : decHard b = ((0, 0), 6) := by unfold decHard; rw [if_neg (by rw [h]; simp)]
    rw [ed] at hK
    exact hardRet hw fun w hw => hK w (x1.back hw.drop.drop)
  · have ed : decHard b = (((rdNum 1099511627776 ⟨b, false⟩).1, (rdNum 15 (rdNum 1099511627776 ⟨b, false⟩).2).1), 0) := by unfold decHard; rw [if_pos h]
    rw [ed] at hK
    refine ⟨_, _, At.own (eqS hw) (by exact ⟨rfl, rfl, trivial⟩), ?_⟩
    exact hardRet hw fun w hw => hK w (x1.back hw.drop.drop)

theorem snap0Ret {bt : Nat} {e : Int} {K : Value → World → Prop} (hw : Sat R (zS bt :: Hs) w) (hk : ∀ w, Sat R (SnapA snap0 ⟨none, 0, 0⟩ ⟨none, 0, 0⟩ ⟨none, 0, 0⟩ :: Hs) w → K (.tuple #[.agg (snapVals 0 0 ⟨none, 0, 0⟩ ⟨none, 0, 0⟩ ⟨none, 0, 0⟩).toArray, .int .i64 e]) w) :
    ∃ w_25 : World, ((Instr.storeAt 27 (.pointer ((some ⟨bt, 0, none⟩))) (.agg #[.int .i64 0, .int .i64 0, .slice none 0 0, .slice none 0 0, .slice none 0 0])).run Tryz.prog w = .ok () w_25) ∧
    ∃ t3 : Int, ∃ t3_1 : Int, ∃ t3_2 : Sl, ∃ t3_3 : Sl, ∃ t3_4 : Sl, (At (fun w' => w' = w_25) ⟨bt, 0, none⟩ [.int .i64 t3, .int .i64 t3_1, .slice t3_2.a t3_2.len t3_2.cap, .slice t3_3.a t3_3.len t3_3.cap, .slice t3_4.a t3_4.len t3_4.cap]) ∧
    K (.tuple #[.agg #[.int .i64 t3, .int .i64 t3_1, .slice t3_2.a t3_2.len t3_2.cap, .slice t3_3.a t3_3.len t3_3.cap, .slice t3_4.a t3_4.len t3_4.cap], .int .i64 e]) w_25 :=
  snapRet (sv := ⟨none, 0, 0⟩) (sl := ⟨none, 0, 0⟩) (sd := ⟨none, 0, 0⟩) hw fun w hw => hk w (SnapA.zero hw)

theorem rloadSnap_spec {r : Nat} {st : DS} (h : Twin st) (hby : ByOk st.fs) (hw : Sat R (RefAt r st :: Hs) w) :
    Gets Tryz.prog 33 #[.pointer (some ⟨r, 0, none⟩)] w fun y w' => ∃ sv sl sd : Sl, y = .tuple #[.agg (snapVals (loadSnapD st).1.idx (loadSnapD st).1.term sv sl sd).toArray, .int .i64 (loadSnapD st).2] ∧ Sat R (SnapA (loadSnapD st).1 sv sl sd :: RefAt r st :: Hs) w' := by
  apply call33
  suffices H : ∀ K : Value → World → Prop, (∀ sv sl sd w', Sat R (SnapA (loadSnapD st).1 sv sl sd :: RefAt r st :: Hs) w' → K (.tuple #[.agg (snapVals (loadSnapD st).1.idx (loadSnapD st).1.term sv sl sd).toArray, .int .i64 (loadSnapD st).2]) w') → B33 (some ⟨r, 0, none⟩) K w from H _ fun sv sl sd w' hw' => ⟨sv, sl, sd, rfl, hw'⟩
  intro K hK
  refine new_rule hw fun bt w hw => Br.f rfl ?_
  have hw : Sat R (zS bt :: RefAt r st :: Hs) w := hw
  refine (rread_spec (name := snapN) h snapN_ok hby hw.swap).use ?_
  rintro _ w ⟨t, is, R1, rfl, x1, hw, ho⟩
  have hw := hw.swap
  refine ⟨t, is, _, rfl, ?_⟩
  rcases ho with ⟨b, e, rfl, s1, hbl, hb⟩ | ⟨e, ho⟩
  rotate_left
  · have hl : loadSnapD st = (snap0, (oneD st snapN).2) := by
      unfold loadSnapD
      rw [show oneD st snapN = (none, (oneD st snapN).2) from Prod.ext e rfl]
    rw [hl] at hK
    refine Br.ne (fun h1 => snap0Ret hw fun w hw => hK _ _ _ w (x1.back hw)) (fun h1 => Br.nb (fun h2 => snap0Ret hw fun w hw => hK _ _ _ w (x1.back hw)) (fun h2 => ?_))
    rcases ho with ho | ho
    · exact absurd h1 ho
    · rw [ho] at h2; cases h2
  have hl : loadSnapD st = decSnap b := by unfold loadSnapD; rw [e]
  rw [hl] at hK
  rw [e]
  refine Br.f rfl (Br.f rfl ((rdec_spec hb s1 (by omega) hw).use ?_))
  rintro _ w ⟨sv, sl, sd, rfl, hw⟩
  refine ⟨_, _, _, _, _, _, rfl, ?_⟩
  exact snapRet hw.swap fun w hw => hK _ _ _ w (x1.back hw)

end Go.Proofs.YtgfneeoponiibaaGreat
/- KeepAtomic: the law. No condition. -/
namespace Go.Proofs.YtgfneeoponiibaaGreat
open Go Go.VC

variable {R : Cx} {Hs Rest : List HP} {w : World}

/-- A step of the laws, and the slices of it. -/
structure StepM where
  dof : Int
  n : Int
  name : ByteArray
  ht : Int
  hv : Int
  x : SnapM
  sv : Sl
  sl : Sl
  sd : Sl
  keep : List Int
  sk : Sl
  b : List Int
  sb : Sl
abbrev StepM.vals (e : StepM) : List Value := [.int .i64 e.dof, .int .i64 e.n, .string e.name, .int .i64 e.ht, .int .i64 e.hv, .int .i64 e.x.idx, .int .i64 e.x.term, .slice e.sv.a e.sv.len e.sv.cap, .slice e.sl.a e.sl.len e.sl.cap, .slice e.sd.a e.sd.len e.sd.cap, .slice e.sk.a e.sk.len e.sk.cap, .slice e.sb.a e.sb.len e.sb.cap]
/-- It can be read. -/
structure StepR (R : Cx) (e : StepM) : Prop where
  x : SnapR R e.x e.sv e.sl e.sd
  k : RoI R e.sk e.keep
  b : Ro R e.sb (b8 e.b)
  bb : ∀ z ∈ e.b, 0 ≤ z ∧ z < 256
  n0 : -9223372036854775808 ≤ e.n
  n1 : e.n < 9223372036854775808
theorem StepR.ext {R' : Cx} {e : StepM} (h : R.Ext R') (a : StepR R e) : StepR R' e := ⟨a.x.ext h, h.ro a.k, h.ro a.b, a.bb, a.n0, a.n1⟩
abbrev stepCells (e : StepM) : Obj := .cells e.vals.toArray 50 (0, 0)

/-- What is left behind the power's loss: the one or the other. -/
theorem atomic_out {st : DS} (i : Inv st) {t v : Int} {x : SnapM} {a c : List Int} (hk : hardOk t v) (hxk : x.ok = true) (hh : getM hardN st.fs = some (whole a)) (hs : getM snapN st.fs = some (whole c)) :
    getM hardN (saveSnapD (saveHardD st t v).1 x).1.fs = some (whole (if (saveHardD st t v).2 = 0 then hardB t v else a)) ∧
    getM snapN (saveSnapD (saveHardD st t v).1 x).1.fs = some (whole (if (saveSnapD (saveHardD st t v).1 x).2 = 0 then snapB x else c)) := by
  have e1 : saveHardD st t v = writeD st hardN (hardB t v) := if_pos hk
  have e2 : ∀ st, saveSnapD st x = writeD st snapN (snapB x) := fun _ => if_pos hxk
  have o1 := write_out i (b := hardB t v) hard_ne
  have i1 := write_inv i hardN (hardB t v)
  have o2 := write_out i1 (b := snapB x) snap_ne
  have g1 : getM snapN (writeD st hardN (hardB t v)).1.fs = getM snapN st.fs := write_get (fun h => hs_ne h.symm) shx_ne
  rw [e1, e2]
  rw [write_get hs_ne hsx_ne]
  constructor
  · split
    · rename_i h; exact (o1.2 h).1
    · rename_i h; rw [o1.1 h, hh]
  · split
    · rename_i h; exact (o2.2 h).1
    · rename_i h; rw [o2.1 h, g1, hs]

theorem atomic_law {a b : StepM} {n : Int} (ha : StepR R a) (hb : StepR R b) (hn1 : n < 9223372036854775808) (hw : Sat R Hs w) :
    Gets Tryz.prog 6 #[.agg a.vals.toArray, .agg b.vals.toArray, .int .i64 n] w fun v w' => v = .bool true ∧ Sat R Hs w' := by
  apply call6
  refine new_rule hw fun pa w hw => new_rule hw fun pb w hw => ?_
  have hw : Sat R (pts pb (stepCells b) :: pts pa (stepCells a) :: Hs) w := hw
  refine (awake_spec hw).use ?_
  rintro _ w ⟨rfl, hw⟩
  refine ⟨true, rfl, ?_⟩
  refine (new_ok (room := 200000) (by omega) (by omega) hw).use ?_
  rintro _ w ⟨d, rfl, hw⟩
  have fin : ∀ {d st w}, Sat R (DiskAt d st :: pts pb (stepCells b) :: pts pa (stepCells a) :: Hs) w → Value.bool true = .bool true ∧ Sat R Hs w := fun hw => ⟨rfl, hw.drop.drop.drop⟩
  refine ⟨_, _, rfl, Sat R (DiskAt d ⟨200000, [], -1, -1, false⟩ :: pts pb (stepCells b) :: pts pa (stepCells a) :: Hs), ?_, ?_⟩
  · refine Br.f rfl (Br.f rfl (Br.f rfl ⟨a.sd, At.own (eqS hw) (by exact ⟨rfl, trivial⟩), Br.mk (fun h => fin hw) (fun _ => ⟨b.sd, At.own (eqS hw) (by exact ⟨rfl, trivial⟩), Br.mk (fun h => fin hw) (fun _ => hw)⟩)⟩))
  clear hw
  intro _ w hw
  refine ⟨fun y w => y = decide (hardOk a.ht a.hv ∧ hardOk b.ht b.hv) ∧ Sat R (DiskAt d ⟨200000, [], -1, -1, false⟩ :: pts pb (stepCells b) :: pts pa (stepCells a) :: Hs) w, ?_, ?_⟩
  · refine ⟨a.ht, a.hv, At.own (eqS hw) (by exact ⟨rfl, rfl, trivial⟩), ?_⟩
    refine (rhard_spec _ _ hw).use ?_
    rintro _ w ⟨rfl, hw⟩
    refine ⟨_, rfl, Br.d (fun h => ?_) (fun h => ⟨(decide_eq_false fun h2 => h h2.1).symm, hw⟩)⟩
    refine ⟨b.ht, b.hv, At.own (eqS hw) (by exact ⟨rfl, rfl, trivial⟩), ?_⟩
    refine (rhard_spec _ _ hw).use ?_
    rintro _ w ⟨rfl, hw⟩
    refine ⟨_, rfl, ?_, hw⟩
    rw [decide_eq_decide]
    exact ⟨fun h2 => ⟨h, h2⟩, fun h2 => h2.2⟩
  clear hw
  rintro _ _ w ⟨rfl, hw⟩
  refine ⟨fun y w => y = decide (a.x.ok = true ∧ b.x.ok = true) ∧ Sat R (DiskAt d ⟨200000, [], -1, -1, false⟩ :: pts pb (stepCells b) :: pts pa (stepCells a) :: Hs) w, ?_, ?_⟩
  · refine ⟨a.x.idx, a.x.term, a.sv, a.sl, a.sd, At.own (eqS hw) (by exact ⟨rfl, rfl, rfl, rfl, rfl, trivial⟩), ?_⟩
    refine (rsnap_spec (sd := a.sd) ha.x.v ha.x.l hw).use ?_
    rintro _ w ⟨rfl, hw⟩
    rw [ha.x.dl]
    refine ⟨_, rfl, Br.mk (fun h => ?_) (fun h => ⟨(decide_eq_false fun h2 => by rw [show snapOk a.x.idx a.x.term a.x.vot a.x.lrn a.x.data.length = true from h2.1] at h; cases h).symm, hw⟩)⟩
    refine ⟨b.x.idx, b.x.term, b.sv, b.sl, b.sd, At.own (eqS hw) (by exact ⟨rfl, rfl, rfl, rfl, rfl, trivial⟩), ?_⟩
    refine (rsnap_spec (sd := b.sd) hb.x.v hb.x.l hw).use ?_
    rintro _ w ⟨rfl, hw⟩
    rw [hb.x.dl]
    refine ⟨_, rfl, ?_, hw⟩
    rw [Bool.eq_iff_iff, decide_eq_true_iff]
    exact ⟨fun h2 => ⟨h, h2⟩, fun h2 => h2.2⟩
  clear hw
  rintro _ _ w ⟨rfl, hw⟩
  refine ⟨fun w => ((hardOk a.ht a.hv ∧ hardOk b.ht b.hv) ∧ (a.x.ok = true ∧ b.x.ok = true) ∧ 0 ≤ n) ∧ Sat R (DiskAt d ⟨200000, [], -1, -1, false⟩ :: pts pb (stepCells b) :: pts pa (stepCells a) :: Hs) w, ?_, ?_⟩
  · refine Br.nd (fun _ => fin hw) (fun h1 => Br.nd (fun _ => fin hw) (fun h2 => Br.d (fun _ => fin hw) (fun h3 => ⟨⟨h1, h2, by omega⟩, hw⟩)))
  clear hw
  rintro _ w ⟨⟨⟨ka, kb⟩, ⟨xa, xb⟩, hn0⟩, hw⟩
  have g0 := Good.new (room := 200000) (by omega) (by omega)
  refine ⟨a.ht, a.hv, At.own (eqS hw) (by exact ⟨rfl, rfl, trivial⟩), ?_⟩
  refine (saveHard_spec (t := a.ht) (v := a.hv) g0.inv (by simp) hw).use ?_
  rintro _ w ⟨rfl, hw⟩
  obtain ⟨a1, g1, a2, a3⟩ := g0.hard ka (by omega)
  refine ⟨_, rfl, a.x.idx, a.x.term, a.sv, a.sl, a.sd, At.own (eqS hw) (by exact ⟨rfl, rfl, rfl, rfl, rfl, trivial⟩), ?_⟩
  rw [a1]
  generalize (saveHardD ⟨200000, [], -1, -1, false⟩ a.ht a.hv).1 = st1 at *
  refine (saveSnap_spec g1.inv (by have := g1.len; omega) ha.x.v ha.x.l ha.x.d ha.x.b hw).use ?_
  rintro _ w ⟨rfl, hw⟩
  obtain ⟨b1, g2, b2, b3⟩ := g1.snap xa ha.x.b (by omega)
  rw [b1]
  generalize (saveSnapD st1 a.x).1 = st2 at *
  refine ⟨_, rfl, Sat R (DiskAt d st2 :: pts pb (stepCells b) :: pts pa (stepCells a) :: Hs), Br.f rfl (Br.f rfl hw), ?_⟩
  clear hw
  intro _ w hw
  refine (arm_spec n hw).use ?_
  rintro _ w ⟨rfl, hw⟩
  rw [if_neg (by omega : ¬ n < 0)] at hw ⊢
  refine ⟨_, rfl, b.ht, b.hv, At.own (eqS hw) (by exact ⟨rfl, rfl, trivial⟩), ?_⟩
  have i3 : Inv { st2 with arm := n } := { g2.inv with a0 := by show -1 ≤ n; omega, a1 := hn1 }
  have by3 : ByOk ({ st2 with arm := n } : DS).fs := g2.by_
  have l3 : ({ st2 with arm := n } : DS).fs.length ≤ 4 := g2.len
  have hh3 : getM hardN ({ st2 with arm := n } : DS).fs = some (whole (hardB a.ht a.hv)) := b3.trans a2
  have hs3 : getM snapN ({ st2 with arm := n } : DS).fs = some (whole (snapB a.x)) := b2
  generalize ({ st2 with arm := n } : DS) = st3 at *
  refine (saveHard_spec (t := b.ht) (v := b.hv) i3 (by omega) hw).use ?_
  rintro _ w ⟨rfl, hw⟩
  refine ⟨_, rfl, b.x.idx, b.x.term, b.sv, b.sl, b.sd, At.own (eqS hw) (by exact ⟨rfl, rfl, rfl, rfl, rfl, trivial⟩), ?_⟩
  have e4 : saveHardD st3 b.ht b.hv = writeD st3 hardN (hardB b.ht b.hv) := if_pos kb
  have i4 : Inv (saveHardD st3 b.ht b.hv).1 := by rw [e4]; exact write_inv i3 _ _
  have by4 : ByOk (saveHardD st3 b.ht b.hv).1.fs := by rw [e4]; exact by_write by3 _ (hardB_bd kb)
  have l4 : (saveHardD st3 b.ht b.hv).1.fs.length ≤ 6 := by rw [e4]; have := write_len st3 hardN (hardB b.ht b.hv); omega
  refine (saveSnap_spec i4 (by omega) hb.x.v hb.x.l hb.x.d hb.x.b hw).use ?_
  rintro _ w ⟨rfl, hw⟩
  obtain ⟨oh, os⟩ := atomic_out i3 kb xb hh3 hs3
  have e5 : saveSnapD (saveHardD st3 b.ht b.hv).1 b.x = writeD (saveHardD st3 b.ht b.hv).1 snapN (snapB b.x) := if_pos xb
  have i5 : Inv (saveSnapD (saveHardD st3 b.ht b.hv).1 b.x).1 := by rw [e5]; exact write_inv i4 _ _
  have by5 : ByOk (saveSnapD (saveHardD st3 b.ht b.hv).1 b.x).1.fs := by rw [e5]; exact by_write by4 _ (snapB_bd xb hb.x.b)
  have l5 : (saveSnapD (saveHardD st3 b.ht b.hv).1 b.x).1.fs.length ≤ 8 := by rw [e5]; have := write_len (saveHardD st3 b.ht b.hv).1 snapN (snapB b.x); omega
  generalize (saveHardD st3 b.ht b.hv).2 = y1 at *
  generalize saveSnapD (saveHardD st3 b.ht b.hv).1 b.x = z at *
  refine ⟨_, rfl, b.sk, At.own (eqS hw) (by exact ⟨rfl, trivial⟩), ?_⟩
  refine (crash_spec i5 hb.k (by omega) hw).use ?_
  rintro _ w ⟨rfl, hw⟩
  have i6 := crash_inv i5 b.keep
  have by6 := by_crash by5 b.keep
  have ch := crash_get (keep := b.keep) oh
  have cs := crash_get (keep := b.keep) os
  have co : (crashD z.1 b.keep).off = false := rfl
  generalize crashD z.1 b.keep = st6 at *
  refine ⟨rfl, (loadHard_spec i6 by6 hw).use ?_⟩
  rintro _ w ⟨rfl, hw⟩
  obtain ⟨t6, v6, eh, hth⟩ : ∃ t v : Int, loadHardD st6 = ((t, v), 0) ∧ ((y1 = 0 → t = b.ht ∧ v = b.hv) ∧ (¬ y1 = 0 → t = a.ht ∧ v = a.hv)) := by
    by_cases hy : y1 = 0
    · rw [if_pos hy] at ch
      exact ⟨_, _, loadHard_kept co ch kb, fun _ => ⟨rfl, rfl⟩, fun h => absurd hy h⟩
    · rw [if_neg hy] at ch
      exact ⟨_, _, loadHard_kept co ch ka, fun h => absurd h hy, fun _ => ⟨rfl, rfl⟩⟩
  rw [eh]
  refine ⟨t6, v6, 0, rfl, ?_⟩
  refine new_rule hw fun px w hw => hardPut0 hw fun w hw => ?_
  refine (loadSnap_spec i6 by6 hw.swap).use ?_
  rintro _ w ⟨zv, zl, zd, rfl, hw⟩
  obtain ⟨x6, es, hxs, hx6, hx6b⟩ : ∃ x : SnapM, loadSnapD st6 = (x, 0) ∧ ((z.2 = 0 → x = b.x) ∧ (¬ z.2 = 0 → x = a.x)) ∧ x.ok = true ∧ ∀ z ∈ x.data, 0 ≤ z ∧ z < 256 := by
    by_cases hy : z.2 = 0
    · rw [if_pos hy] at cs
      exact ⟨_, loadSnap_kept co cs xb hb.x.b, ⟨fun _ => rfl, fun h => absurd hy h⟩, xb, hb.x.b⟩
    · rw [if_neg hy] at cs
      exact ⟨_, loadSnap_kept co cs xa ha.x.b, ⟨fun h => absurd h hy, fun _ => rfl⟩, xa, ha.x.b⟩
  rw [es] at hw ⊢
  obtain ⟨h1, h2, h3, h4, h5, h6, h7, _⟩ := snapOk_out hx6
  obtain ⟨R3, e3, hz, hw⟩ := SnapA.leak h5 h6 h7 hx6b hw
  refine ⟨_, _, _, _, _, _, rfl, ?_⟩
  refine new_rule hw fun pz w hw => snapPut0 hw fun w hw => ?_
  have hw : Sat R3 (pts pz (snapCells x6.idx x6.term zv zl zd) :: DiskAt d st6 :: pts px (hCells t6 v6) :: pts pb (stepCells b) :: pts pa (stepCells a) :: Hs) w := hw
  refine ⟨_, _, zv, zl, zd, At.own (eqS hw) (by exact ⟨rfl, rfl, rfl, rfl, rfl, trivial⟩), a.x.idx, a.x.term, a.sv, a.sl, a.sd, At.own (eqS hw) (by exact ⟨rfl, rfl, rfl, rfl, rfl, trivial⟩), ?_⟩
  refine (sameR_spec hz (ha.x.ext e3) hw).use ?_
  rintro _ w ⟨rfl, hw⟩
  refine ⟨_, rfl, _, _, zv, zl, zd, At.own (eqS hw) (by exact ⟨rfl, rfl, rfl, rfl, rfl, trivial⟩), b.x.idx, b.x.term, b.sv, b.sl, b.sd, At.own (eqS hw) (by exact ⟨rfl, rfl, rfl, rfl, rfl, trivial⟩), ?_⟩
  refine (sameR_spec hz (hb.x.ext e3) hw).use ?_
  rintro _ w ⟨rfl, hw⟩
  refine ⟨_, rfl, Sat R3 (pts pz (snapCells x6.idx x6.term zv zl zd) :: DiskAt d st6 :: pts px (hCells t6 v6) :: pts pb (stepCells b) :: pts pa (stepCells a) :: Hs), ?_, ?_⟩
  · have rest : Br (!decide (x6 = a.x)) (Br (!decide (x6 = b.x)) (Value.bool false = .bool true ∧ Sat R Hs w) (Sat R3 (pts pz (snapCells x6.idx x6.term zv zl zd) :: DiskAt d st6 :: pts px (hCells t6 v6) :: pts pb (stepCells b) :: pts pa (stepCells a) :: Hs) w)) (Sat R3 (pts pz (snapCells x6.idx x6.term zv zl zd) :: DiskAt d st6 :: pts px (hCells t6 v6) :: pts pb (stepCells b) :: pts pa (stepCells a) :: Hs) w) := by
      refine Br.nd (fun h => Br.nd (fun h' => ?_) (fun _ => hw)) (fun _ => hw)
      by_cases hy : z.2 = 0
      · exact absurd (hxs.1 hy) h'
      · exact absurd (hxs.2 hy) h
    refine Br.f rfl (Br.f rfl ⟨t6, v6, At.own (eqS hw) (by exact ⟨rfl, rfl, trivial⟩), a.ht, a.hv, At.own (eqS hw) (by exact ⟨rfl, rfl, trivial⟩), _, fun w' _ => hard_neq _ _ _ _ _ _ w', Br.nd (fun h => ?_) (fun _ => rest)⟩)
    refine ⟨t6, v6, At.own (eqS hw) (by exact ⟨rfl, rfl, trivial⟩), b.ht, b.hv, At.own (eqS hw) (by exact ⟨rfl, rfl, trivial⟩), _, fun w' _ => hard_neq _ _ _ _ _ _ w', Br.nd (fun h' => ?_) (fun _ => rest)⟩
    by_cases hy : y1 = 0
    · exact absurd (hth.1 hy) h'
    · exact absurd (hth.2 hy) h
  clear hw
  intro _ w hw
  have hwR : Sat R Hs w := e3.back hw.drop.drop.drop.drop.drop
  have last : Br (z.2 != 0) (Value.bool true = .bool true ∧ Sat R Hs w) (Value.bool (decide (x6 = b.x)) = .bool true ∧ Sat R Hs w) := by
    refine Br.ne (fun _ => ⟨rfl, hwR⟩) (fun h => ⟨?_, hwR⟩)
    rw [decide_eq_true (hxs.1 h)]
  refine Br.ne (fun _ => last) (fun h => ?_)
  refine ⟨t6, v6, At.own (eqS hw) (by exact ⟨rfl, rfl, trivial⟩), b.ht, b.hv, At.own (eqS hw) (by exact ⟨rfl, rfl, trivial⟩), _, fun w' _ => hard_eql _ _ _ _ _ _ w', Br.t (decide_eq_true (hth.1 h)) last⟩

end Go.Proofs.YtgfneeoponiibaaGreat
/- KeepScripts: the law. No condition. -/
namespace Go.Proofs.YtgfneeoponiibaaGreat
open Go Go.VC

variable {R : Cx} {Hs Rest : List HP} {w : World}

theorem saveHard_nil (hw : Sat R Hs w) : Gets Tryz.prog 15 #[.pointer none, .agg #[.int .i64 0, .int .i64 0]] w fun r w' => r = .int .i64 1 ∧ Sat R Hs w' := by
  apply call15
  refine new_rule hw fun bh w hw => ?_
  have hw : Sat R (pts bh (hCells 0 0) :: Hs) w := hw
  refine ⟨0, 0, At.own (eqS hw) (by exact ⟨rfl, rfl, trivial⟩), ?_⟩
  have key : Gets Tryz.prog 54 #[.pointer none, .string hardN, .agg #[.int .i64 0, .int .i64 0], .func (.func 55) #[] #[]] w fun r w' => r = .int .i64 1 ∧ Sat R Hs w' := by
    apply call54
    refine new_rule hw.drop fun bx w hw => ?_
    have hw : Sat R (pts bx (hCells 0 0) :: Hs) w := hw
    refine ⟨0, 0, At.own (eqS hw) (by exact ⟨rfl, rfl, trivial⟩), CalW.mk (by kernel_rfl) ?_⟩
    refine (encHard_spec 0 0 hw.drop).use ?_
    rintro _ w (⟨hno, rfl, hw⟩ | ⟨hok, s, rfl, hw⟩)
    · exact ⟨⟨none, 0, 0⟩, 1, rfl, fun _ => False, Br.t rfl ⟨rfl, hw⟩, fun _ _ h => h.elim⟩
    · exact ⟨s, 0, rfl, fun _ => False, Br.t rfl ⟨rfl, hw.drop⟩, fun _ _ h => h.elim⟩
  refine key.use ?_
  rintro _ w ⟨rfl, hw⟩
  exact ⟨_, rfl, rfl, hw⟩

theorem stepPut0 {b : Nat} {e : StepM} {K : World → Prop} (hw : Sat R (pts b (.cells #[.int .i64 0, .int .i64 0, .string (ByteArray.mk #[]), .int .i64 0, .int .i64 0, .int .i64 0, .int .i64 0, .slice none 0 0, .slice none 0 0, .slice none 0 0, .slice none 0 0, .slice none 0 0] 50 (0, 0)) :: Hs) w) (hk : ∀ w, Sat R (pts b (stepCells e) :: Hs) w → K w) :
    ∃ w_25 : World, ((Instr.storeAt 50 (.pointer ((some ⟨b, 0, none⟩))) (.agg #[.int .i64 e.dof, .int .i64 e.n, .string e.name, .int .i64 e.ht, .int .i64 e.hv, .int .i64 e.x.idx, .int .i64 e.x.term, .slice e.sv.a e.sv.len e.sv.cap, .slice e.sl.a e.sl.len e.sl.cap, .slice e.sd.a e.sd.len e.sd.cap, .slice e.sk.a e.sk.len e.sk.cap, .slice e.sb.a e.sb.len e.sb.cap])).run Tryz.prog w = .ok () w_25) ∧ K w_25 := by
  have hw : Sat R (pts b (.cells [.int .i64 0, .int .i64 0, .string (ByteArray.mk #[]), .int .i64 0, .int .i64 0, .int .i64 0, .int .i64 0, .slice none 0 0, .slice none 0 0, .slice none 0 0, .slice none 0 0, .slice none 0 0].toArray 50 (0, 0)) :: Hs) w := hw
  refine store_rule hw (by kernel_rfl) rfl (by simp [Value.cells]) fun w hw => hk w ?_
  exact hw.re (pts b (stepCells e))

def stepD (st : DS) (e : StepM) : DS :=
  if e.dof = 0 then (saveHardD st e.ht e.hv).1 else if e.dof = 1 then (saveSnapD st e.x).1 else if e.dof = 4 then { st with fail := if e.n < 0 then st.fail else e.n }
  else if e.dof = 5 then { st with arm := if e.n < 0 then st.arm else e.n } else if e.dof = 6 then crashD st e.keep else if e.dof = 7 then (appendD st e.name e.b).1 else st
def stepR (st : DS) (e : StepM) : DS :=
  if e.dof = 0 then (saveHardR st e.ht e.hv).1 else if e.dof = 1 then (saveSnapR st e.x).1 else if e.dof = 4 then { st with fail := if e.n < 0 then st.fail else e.n }
  else if e.dof = 5 then { st with arm := if e.n < 0 then st.arm else e.n } else if e.dof = 6 then crashR st e.keep else if e.dof = 7 then (appendR st e.name e.b).1 else st
theorem Rel.step {a b : DS} (h : Rel a b) (e : StepM) (hn : e.n < 9223372036854775808) : Rel (stepD a e) (stepR b e) := by
  unfold stepD stepR
  split
  · exact (h.saveHard _ _).1
  split
  · exact (h.saveSnap _).1
  split
  · exact h.setFail _ hn
  split
  · exact h.setArm _ hn
  split
  · exact h.crash _
  split
  · exact (h.append _ _).1
  · exact h
theorem saveHard_len (st : DS) (t v : Int) : (saveHardD st t v).1.fs.length ≤ st.fs.length + 2 := by
  unfold saveHardD
  split
  · exact write_len _ _ _
  · show st.fs.length ≤ _; omega
theorem saveSnap_len (st : DS) (x : SnapM) : (saveSnapD st x).1.fs.length ≤ st.fs.length + 2 := by
  unfold saveSnapD
  split
  · exact write_len _ _ _
  · show st.fs.length ≤ _; omega
theorem step_len (st : DS) (e : StepM) : (stepD st e).fs.length ≤ st.fs.length + 2 := by
  unfold stepD
  split
  · exact saveHard_len _ _ _
  split
  · exact saveSnap_len _ _
  split
  · show st.fs.length ≤ _; omega
  split
  · show st.fs.length ≤ _; omega
  split
  · rw [crash_len]; omega
  split
  · have := append_len st e.name e.b; omega
  · omega
theorem step_by {st : DS} (h : ByOk st.fs) {e : StepM} (hb : Byt e.b) (hx : ∀ z ∈ e.x.data, 0 ≤ z ∧ z < 256) : ByOk (stepD st e).fs := by
  unfold stepD
  split
  · unfold saveHardD
    split
    · rename_i hk; exact by_write h _ (hardB_bd hk)
    · exact h
  split
  · unfold saveSnapD
    split
    · rename_i hk; exact by_write h _ (snapB_bd hk hx)
    · exact h
  split
  · exact h
  split
  · exact h
  split
  · exact by_crash h _
  split
  · exact by_append h _ hb
  · exact h

theorem scripts_law {room : Int} {l : Sl} {es : List StepM} (hl : RoN 12 R l (es.map StepM.vals)) (he : ∀ e ∈ es, StepR R e ∧ e.name.size ≤ maxLen) (hw : Sat R Hs w) :
    Gets Tryz.prog 7 #[.int .i64 room, .slice l.a l.len l.cap] w fun v w' => v = .bool true ∧ Sat R Hs w' := by
  have hll : l.len = es.length := by have := hl.len; simpa using this
  apply call7
  refine (awake_spec hw).use ?_
  rintro _ w ⟨rfl, hw⟩
  refine ⟨true, rfl, (new_spec room hw).use ?_⟩
  rintro _ w (⟨hn, rfl, hw⟩ | ⟨hn, h0, h1, d, rfl, hw⟩)
  · refine ⟨_, _, rfl, (newR_spec room hw).use ?_⟩
    rintro _ w (⟨hn2, rfl, hw⟩ | ⟨hn2, _, _, d, rfl, hw⟩)
    · exact ⟨_, _, rfl, Sat R Hs, Br.f rfl (Br.f rfl (Br.f rfl hw)), fun _ w hw => Br.t rfl ⟨rfl, hw⟩⟩
    · rw [hn] at hn2; cases hn2
  refine ⟨_, _, rfl, (newR_spec room hw).use ?_⟩
  rintro _ w (⟨hn2, rfl, hw⟩ | ⟨hn2, _, _, r, rfl, hw⟩)
  · rw [hn] at hn2; cases hn2
  have hw := hw.swap
  refine ⟨_, _, rfl, Sat R (DiskAt d ⟨room, [], -1, -1, false⟩ :: RefAt r ⟨room, [], -1, -1, false⟩ :: Hs), Br.f rfl (Br.f rfl (Br.f rfl hw)), fun _ w hw => Br.f rfl ?_⟩
  refine ⟨fun i w => ∃ (k : Nat) (st sr : DS), i = k ∧ k ≤ es.length ∧ k ≤ 60 ∧ Rel st sr ∧ ByOk st.fs ∧ st.fs.length ≤ 2 * k ∧ Sat R (DiskAt d st :: RefAt r sr :: Hs) w, fun i _ => es.length - i.toNat, ⟨0, _, _, rfl, Nat.zero_le _, by omega, Rel.new h0 h1, fun _ h => (by cases h), Nat.le_refl _, hw⟩, ?_⟩
  clear hw
  rintro z _ w ⟨k, st, sr, rfl, hk, hk3, hr, hby, hfl, hw⟩
  have endK : ∀ {w}, Sat R (DiskAt d st :: RefAt r sr :: Hs) w → Calls Tryz.prog 15 #[.pointer none, .agg #[.int .i64 0, .int .i64 0]] w fun e_3 w_6 => ∃ t207 : Int, (e_3 = .returned (.int .i64 t207)) ∧ (Value.bool (t207 == 1) = .bool true ∧ Sat R Hs w_6) := fun hw => by
    refine (saveHard_nil hw.drop.drop).use ?_
    rintro _ w ⟨rfl, hw⟩
    exact ⟨1, rfl, rfl, hw⟩
  refine ⟨fun w => (k < es.length ∧ k < 60) ∧ Sat R (DiskAt d st :: RefAt r sr :: Hs) w, Br.d (fun a1 => Br.d (fun a2 => ⟨⟨by omega, by omega⟩, hw⟩) (fun _ => endK hw)) (fun _ => endK hw), ?_⟩
  clear hw endK
  rintro _ w ⟨⟨hk1, hk2⟩, hw⟩
  have hrd : ReadsN 12 l (es.map StepM.vals) (fun w' => w' = w) := hl.reads (eqS hw)
  refine hrd.rngM hk1 fun a hadr el => ⟨_, _, _, _, _, _, _, _, _, _, _, _, el.z (by exact ⟨rfl, rfl, rfl, rfl, rfl, rfl, rfl, rfl, rfl, rfl, rfl, rfl, trivial⟩), ?_⟩
  obtain ⟨hok, hnm⟩ := he es[k] (List.getElem_mem _)
  have next : ∀ {w}, Sat R (DiskAt d (stepD st es[k]) :: RefAt r (stepR sr es[k]) :: Hs) w → (∃ (k' : Nat) (st sr : DS), IntKind.i64.wrap ((k : Int) + 1) = k' ∧ k' ≤ es.length ∧ k' ≤ 60 ∧ Rel st sr ∧ ByOk st.fs ∧ st.fs.length ≤ 2 * k' ∧ Sat R (DiskAt d st :: RefAt r sr :: Hs) w) ∧ es.length - (IntKind.i64.wrap ((k : Int) + 1)).toNat < es.length - (k : Int).toNat := fun {w} hw => by
    rw [wrap64 (by omega) (by omega)]
    have := step_len st es[k]
    exact ⟨⟨k + 1, _, _, by omega, by omega, by omega, hr.step es[k] hok.n1, step_by hby hok.bb hok.x.b, by omega, hw⟩, by omega⟩
  generalize es[k] = e at *
  refine new_rule hw fun ps w hw => stepPut0 (e := e) hw fun w hw => ?_
  have hel : e.sb.len = e.b.length := by have := hok.b.len; simpa using this
  have hdl := hok.x.dl
  refine ⟨fun w => (e.b.length ≤ 100000) ∧ Sat R (pts ps (stepCells e) :: DiskAt d st :: RefAt r sr :: Hs) w, ?_, ?_⟩
  · refine ⟨e.sb, At.own (eqS hw) (by exact ⟨rfl, trivial⟩), Br.d (fun _ => ⟨rfl, hw.drop.drop.drop⟩) (fun h1 => ⟨e.sd, At.own (eqS hw) (by exact ⟨rfl, trivial⟩), Br.d (fun _ => ⟨rfl, hw.drop.drop.drop⟩) (fun _ => ⟨by omega, hw⟩)⟩)⟩
  clear hw
  rintro _ w ⟨hbl, hw⟩
  have hlr := rel_lenR hr
  have tw : Twin sr := ⟨⟨st, hr⟩, by omega⟩
  refine ⟨Sat R (pts ps (stepCells e) :: DiskAt d (stepD st e) :: RefAt r (stepR sr e) :: Hs), ?_, ?_⟩
  · refine ⟨e.dof, At.own (eqS hw) (by exact ⟨rfl, trivial⟩), Br.e (fun d0 => ?_) (fun d0 => Br.e (fun d1 => ?_) (fun d1 => Br.e (fun d4 => ?_) (fun d4 => Br.e (fun d5 => ?_) (fun d5 => Br.e (fun d6 => ?_) (fun d6 => Br.e (fun d7 => ?_) (fun d7 => ?_))))))⟩
    · have e1 : stepD st e = (saveHardD st e.ht e.hv).1 := by unfold stepD; rw [if_pos d0]
      have e2 : stepR sr e = (saveHardR sr e.ht e.hv).1 := by unfold stepR; rw [if_pos d0]
      rw [e1, e2]
      refine ⟨e.ht, e.hv, At.own (eqS hw) (by exact ⟨rfl, rfl, trivial⟩), ?_⟩
      refine (saveHard_spec (t := e.ht) (v := e.hv) hr.inv (by omega) hw.swap).use ?_
      rintro _ w ⟨rfl, hw⟩
      refine ⟨_, rfl, e.ht, e.hv, At.own (eqS hw) (by exact ⟨rfl, rfl, trivial⟩), ?_⟩
      have hw : Sat R (RefAt r sr :: pts ps (stepCells e) :: DiskAt d (saveHardD st e.ht e.hv).1 :: Hs) w := hw.arr
      refine (rsaveHard_spec tw hw).use ?_
      rintro _ w ⟨rfl, hw⟩
      exact ⟨_, rfl, Br.ne (fun h => absurd (hr.saveHard e.ht e.hv).2 h) (fun _ => hw.arr)⟩
    · have e1 : stepD st e = (saveSnapD st e.x).1 := by unfold stepD; rw [if_neg d0, if_pos d1]
      have e2 : stepR sr e = (saveSnapR sr e.x).1 := by unfold stepR; rw [if_neg d0, if_pos d1]
      rw [e1, e2]
      refine ⟨e.x.idx, e.x.term, e.sv, e.sl, e.sd, At.own (eqS hw) (by exact ⟨rfl, rfl, rfl, rfl, rfl, trivial⟩), ?_⟩
      refine (saveSnap_spec (x := e.x) hr.inv (by omega) hok.x.v hok.x.l hok.x.d hok.x.b hw.swap).use ?_
      rintro _ w ⟨rfl, hw⟩
      refine ⟨_, rfl, e.x.idx, e.x.term, e.sv, e.sl, e.sd, At.own (eqS hw) (by exact ⟨rfl, rfl, rfl, rfl, rfl, trivial⟩), ?_⟩
      have hw : Sat R (RefAt r sr :: pts ps (stepCells e) :: DiskAt d (saveSnapD st e.x).1 :: Hs) w := hw.arr
      refine (rsaveSnap_spec tw hok.x hw).use ?_
      rintro _ w ⟨rfl, hw⟩
      exact ⟨_, rfl, Br.ne (fun h => absurd (hr.saveSnap e.x).2 h) (fun _ => hw.arr)⟩
    · have e1 : stepD st e = { st with fail := if e.n < 0 then st.fail else e.n } := by unfold stepD; rw [if_neg d0, if_neg d1, if_pos d4]
      have e2 : stepR sr e = { sr with fail := if e.n < 0 then sr.fail else e.n } := by unfold stepR; rw [if_neg d0, if_neg d1, if_pos d4]
      rw [e1, e2]
      refine ⟨e.n, At.own (eqS hw) (by exact ⟨rfl, trivial⟩), (fail_spec e.n hw.swap).use ?_⟩
      rintro _ w ⟨rfl, hw⟩
      refine ⟨_, rfl, e.n, At.own (eqS hw) (by exact ⟨rfl, trivial⟩), ?_⟩
      have hw : Sat R (RefAt r sr :: pts ps (stepCells e) :: DiskAt d { st with fail := if e.n < 0 then st.fail else e.n } :: Hs) w := hw.arr
      refine (failR_spec e.n hw).use ?_
      rintro _ w ⟨rfl, hw⟩
      exact ⟨_, rfl, hw.arr⟩
    · have e1 : stepD st e = { st with arm := if e.n < 0 then st.arm else e.n } := by unfold stepD; rw [if_neg d0, if_neg d1, if_neg d4, if_pos d5]
      have e2 : stepR sr e = { sr with arm := if e.n < 0 then sr.arm else e.n } := by unfold stepR; rw [if_neg d0, if_neg d1, if_neg d4, if_pos d5]
      rw [e1, e2]
      refine ⟨e.n, At.own (eqS hw) (by exact ⟨rfl, trivial⟩), (arm_spec e.n hw.swap).use ?_⟩
      rintro _ w ⟨rfl, hw⟩
      refine ⟨_, rfl, e.n, At.own (eqS hw) (by exact ⟨rfl, trivial⟩), ?_⟩
      have hw : Sat R (RefAt r sr :: pts ps (stepCells e) :: DiskAt d { st with arm := if e.n < 0 then st.arm else e.n } :: Hs) w := hw.arr
      refine (armR_spec e.n hw).use ?_
      rintro _ w ⟨rfl, hw⟩
      exact ⟨_, rfl, hw.arr⟩
    · have e1 : stepD st e = crashD st e.keep := by unfold stepD; rw [if_neg d0, if_neg d1, if_neg d4, if_neg d5, if_pos d6]
      have e2 : stepR sr e = crashR sr e.keep := by unfold stepR; rw [if_neg d0, if_neg d1, if_neg d4, if_neg d5, if_pos d6]
      rw [e1, e2]
      refine ⟨e.sk, At.own (eqS hw) (by exact ⟨rfl, trivial⟩), (crash_spec hr.inv hok.k (by omega) hw.swap).use ?_⟩
      rintro _ w ⟨rfl, hw⟩
      refine ⟨rfl, e.sk, At.own (eqS hw) (by exact ⟨rfl, trivial⟩), ?_⟩
      have hw : Sat R (RefAt r sr :: pts ps (stepCells e) :: DiskAt d (crashD st e.keep) :: Hs) w := hw.arr
      refine (crashR_spec hr.invR hok.k (by omega) hw).use ?_
      rintro _ w ⟨rfl, hw⟩
      exact ⟨rfl, hw.arr⟩
    · have e1 : stepD st e = (appendD st e.name e.b).1 := by unfold stepD; rw [if_neg d0, if_neg d1, if_neg d4, if_neg d5, if_neg d6, if_pos d7]
      have e2 : stepR sr e = (appendR sr e.name e.b).1 := by unfold stepR; rw [if_neg d0, if_neg d1, if_neg d4, if_neg d5, if_neg d6, if_pos d7]
      rw [e1, e2]
      refine ⟨e.name, At.own (eqS hw) (by exact ⟨rfl, trivial⟩), e.sb, At.own (eqS hw) (by exact ⟨rfl, trivial⟩), (append_spec hr.inv hok.b (by omega) hw.swap).use ?_⟩
      rintro _ w ⟨rfl, hw⟩
      refine ⟨_, rfl, e.name, At.own (eqS hw) (by exact ⟨rfl, trivial⟩), e.sb, At.own (eqS hw) (by exact ⟨rfl, trivial⟩), ?_⟩
      have hw : Sat R (RefAt r sr :: pts ps (stepCells e) :: DiskAt d (appendD st e.name e.b).1 :: Hs) w := hw.arr
      refine (appendR_spec hr.invR (by omega) (show e.name.size ≤ 9223372036854775807 from hnm) hok.b (by omega) hw).use ?_
      rintro _ w ⟨rfl, hw⟩
      exact ⟨_, rfl, hw.arr⟩
    · have e1 : stepD st e = st := by unfold stepD; rw [if_neg d0, if_neg d1, if_neg d4, if_neg d5, if_neg d6, if_neg d7]
      have e2 : stepR sr e = sr := by unfold stepR; rw [if_neg d0, if_neg d1, if_neg d4, if_neg d5, if_neg d6, if_neg d7]
      rw [e1, e2]
      exact hw
  clear hw
  intro _ w hw
  have hr2 := hr.step e hok.n1
  have hby2 := step_by hby hok.bb hok.x.b
  have hsl := step_len st e
  generalize stepD st e = st2 at *
  generalize stepR sr e = sr2 at *
  have hlr2 := rel_lenR hr2
  have tw2 : Twin sr2 := ⟨⟨st2, hr2⟩, by omega⟩
  refine (loadHard_spec hr2.inv hby2 hw.swap).use ?_
  rintro _ w ⟨rfl, hw⟩
  refine ⟨_, _, _, rfl, new_rule hw fun ph w hw => hardPut0 hw fun w hw => ?_⟩
  have hw : Sat R (RefAt r sr2 :: pts ph (hCells (loadHardD st2).1.1 (loadHardD st2).1.2) :: DiskAt d st2 :: pts ps (stepCells e) :: Hs) w := hw.arr
  refine (rloadHard_spec tw2 (hr2.by_ hby2) hw).use ?_
  rintro _ w ⟨rfl, hw⟩
  rw [← hr2.loadHard]
  refine ⟨_, _, _, rfl, new_rule hw fun pw w hw => hardPut0 hw fun w hw => ?_⟩
  have hw : Sat R (DiskAt d st2 :: RefAt r sr2 :: pts ph (hCells (loadHardD st2).1.1 (loadHardD st2).1.2) :: pts pw (hCells (loadHardD st2).1.1 (loadHardD st2).1.2) :: pts ps (stepCells e) :: Hs) w := hw.arr
  have small : (loadSnapD st2).1.vot.length ≤ 15 ∧ (loadSnapD st2).1.lrn.length ≤ 15 ∧ (loadSnapD st2).1.data.length ≤ 60000 ∧ ∀ z ∈ (loadSnapD st2).1.data, 0 ≤ z ∧ z < 256 := by
    have hz : snap0.vot.length ≤ 15 ∧ snap0.lrn.length ≤ 15 ∧ snap0.data.length ≤ 60000 ∧ ∀ z ∈ snap0.data, 0 ≤ z ∧ z < 256 := ⟨by simp [snap0], by simp [snap0], by simp [snap0], by simp [snap0]⟩
    unfold loadSnapD oneD
    split
    · rename_i b _ hb
      split at hb
      · split at hb
        · rename_i x hx
          simp only [Prod.mk.injEq, Option.some.injEq] at hb
          rw [← hb.1]
          exact decSnap_out (recOf_ok (by_read hby2 snapN) hx).2.1
        · simp at hb
      · split at hb <;> simp at hb
    · exact hz
  refine (loadSnap_spec hr2.inv hby2 hw).use ?_
  rintro _ w ⟨xv, xl, xd, rfl, hw⟩
  obtain ⟨R2, x2, hx, hw⟩ := SnapA.leak small.1 small.2.1 small.2.2.1 small.2.2.2 hw
  refine ⟨_, _, _, _, _, _, rfl, new_rule hw fun px w hw => snapPut0 hw fun w hw => ?_⟩
  have hw : Sat R2 (RefAt r sr2 :: pts px (snapCells (loadSnapD st2).1.idx (loadSnapD st2).1.term xv xl xd) :: DiskAt d st2 :: pts ph (hCells (loadHardD st2).1.1 (loadHardD st2).1.2) :: pts pw (hCells (loadHardD st2).1.1 (loadHardD st2).1.2) :: pts ps (stepCells e) :: Hs) w := hw.arr
  refine (rloadSnap_spec tw2 (hr2.by_ hby2) hw).use ?_
  rintro _ w ⟨yv, yl, yd, rfl, hw⟩
  rw [← hr2.loadSnap] at hw ⊢
  obtain ⟨R3, x3, hy, hw⟩ := SnapA.leak small.1 small.2.1 small.2.2.1 small.2.2.2 hw
  refine ⟨_, _, _, _, _, _, rfl, new_rule hw fun py w hw => snapPut0 hw fun w hw => ?_⟩
  have hw : Sat R3 (pts py (snapCells (loadSnapD st2).1.idx (loadSnapD st2).1.term yv yl yd) :: RefAt r sr2 :: pts px (snapCells (loadSnapD st2).1.idx (loadSnapD st2).1.term xv xl xd) :: DiskAt d st2 :: pts ph (hCells (loadHardD st2).1.1 (loadHardD st2).1.2) :: pts pw (hCells (loadHardD st2).1.1 (loadHardD st2).1.2) :: pts ps (stepCells e) :: Hs) w := hw
  refine ⟨_, _, xv, xl, xd, At.own (eqS hw) (by exact ⟨rfl, rfl, rfl, rfl, rfl, trivial⟩), _, _, yv, yl, yd, At.own (eqS hw) (by exact ⟨rfl, rfl, rfl, rfl, rfl, trivial⟩), ?_⟩
  refine (sameR_spec (hx.ext x3) hy hw).use ?_
  rintro _ w ⟨rfl, hw⟩
  have hw : Sat R3 (RefAt r sr2 :: DiskAt d st2 :: pts ph (hCells (loadHardD st2).1.1 (loadHardD st2).1.2) :: pts pw (hCells (loadHardD st2).1.1 (loadHardD st2).1.2) :: Hs) w := by
    have h : Sat R3 (pts py (snapCells (loadSnapD st2).1.idx (loadSnapD st2).1.term yv yl yd) :: pts px (snapCells (loadSnapD st2).1.idx (loadSnapD st2).1.term xv xl xd) :: pts ps (stepCells e) :: RefAt r sr2 :: DiskAt d st2 :: pts ph (hCells (loadHardD st2).1.1 (loadHardD st2).1.2) :: pts pw (hCells (loadHardD st2).1.1 (loadHardD st2).1.2) :: Hs) w := hw.arr
    exact h.drop.drop.drop
  obtain ⟨s, E, hE, hw⟩ := Sat.ref.1 hw
  have hEl : E.length = sr2.fs.length := by rw [← hE]; simp [erR]
  have hwD : Sat R3 (DiskAt d st2 :: pts r (rCells sr2 s) :: OwnN 3 s 104 (E.map rowR) :: BufsAt E :: pts ph (hCells (loadHardD st2).1.1 (loadHardD st2).1.2) :: pts pw (hCells (loadHardD st2).1.1 (loadHardD st2).1.2) :: Hs) w := hw.arr
  clear hw
  refine ⟨_, rfl, drw_rule hwD fun w hw => ?_⟩
  refine ⟨_, _, At.own selfS (by exact ⟨rfl, rfl, trivial⟩), _, _, At.own selfS (by exact ⟨rfl, rfl, trivial⟩), _, fun w' _ => hard_neq _ _ _ _ _ _ w', Br.f (by simp) (Br.f (by simp) (Br.f (by simp) (Br.f (by simp) (NilP.mk rfl ?_))))⟩
  refine ⟨sr2.off, At.own selfS (by exact ⟨rfl, trivial⟩), (off_spec hw).use ?_⟩
  rintro _ w ⟨rfl, hw⟩
  refine ⟨_, rfl, hw, Br.f (by rw [hr2.off]; simp) ((size_spec hw).use ?_)⟩
  rintro _ w ⟨rfl, hw⟩
  refine ⟨_, rfl, hw, ?_⟩
  have hw : Sat R3 (RO r s E sr2 (DiskAt d st2 :: pts ph (hCells (loadHardD st2).1.1 (loadHardD st2).1.2) :: pts pw (hCells (loadHardD st2).1.1 (loadHardD st2).1.2) :: Hs)) w := hw.arr
  refine (sizeR_spec hE (by omega) (by have := hr2.invR.full; have := hr2.invR.r1; omega) hw).use ?_
  rintro _ w ⟨rfl, hw⟩
  refine ⟨_, rfl, hw.arr, Br.f (by rw [hr2.total]; simp) (next ?_)⟩
  have hw : Sat R3 (RefAt r sr2 :: DiskAt d st2 :: pts ph (hCells (loadHardD st2).1.1 (loadHardD st2).1.2) :: pts pw (hCells (loadHardD st2).1.1 (loadHardD st2).1.2) :: Hs) w := RO.shut hE hw
  have hw : Sat R3 (pts ph (hCells (loadHardD st2).1.1 (loadHardD st2).1.2) :: pts pw (hCells (loadHardD st2).1.1 (loadHardD st2).1.2) :: DiskAt d st2 :: RefAt r sr2 :: Hs) w := hw.arr
  exact (x2.trans x3).back hw.drop.drop

end Go.Proofs.YtgfneeoponiibaaGreat
/- ROW: from a reading of an argument to what the contracts ask; from a walk's end to 'Below'. No condition. -/
namespace Go.VC
open Go.ChangeShapes Go.WideShapes Go.ChangeAt Go.RowKit

theorem below_of {W W' : World} {Hs : List HP} (h : Sat (Cx.of W) Hs W') : Below W.heap.size W W' := by
  obtain ⟨h1, h2, h3⟩ := h.streams
  have hb : ∀ k, k < W.heap.size → W'.heap[k]? = W.heap[k]? := fun k hk => by
    have : (Cx.of W).m k = some W.heap[k] := by simp [Cx.of, hk]
    rw [h.of_ro this]; simp [hk]
  refine ⟨h1, h2, h3, ?_, hb⟩
  rcases Nat.lt_or_ge W'.heap.size W.heap.size with hl | hl
  · have := hb W'.heap.size hl
    rw [Array.getElem?_eq_none (Nat.le_refl _)] at this
    simp [hl] at this
  · exact hl

theorem block_of_cell {w : World} {a : Addr} {v : Value} (h : w.cell? a = some v) : a.spot = none ∧ ∃ l T fr, w.heap[a.block]? = some (.cells l T fr) ∧ l[a.off]? = some v := by
  unfold World.cell? at h
  split at h
  · rename_i c T fr hb
    split at h
    · cases h
    · rename_i hs
      exact ⟨by simpa using hs, c, T, fr, hb, h⟩
  · cases h

/-- A slice of one-cell elements that was read: told by the cells that hold them. -/
theorem ro_of_cells {W : World} {a : Addr} {n c : Nat} {xs : List Value} (hn : n = xs.length) (hb : xs.length ≤ 9223372036854775807)
    (hc : ∀ i (h : i < xs.length), W.cell? (a.add i) = some xs[i]) : Ro (Cx.of W) ⟨some a, n, c⟩ xs := by
  refine ⟨hn, hb, fun hne => ?_⟩
  have h0 : 0 < xs.length := List.length_pos_iff.2 hne
  have hc0 := hc 0 h0
  simp only [Addr.add, if_true] at hc0
  obtain ⟨hs, l, T, fr, hl, _⟩ := block_of_cell hc0
  refine ⟨a.block, a.off, l, T, fr, ?_, hl, fun i v hv => ?_⟩
  · cases a; simp_all
  · obtain ⟨hi, rfl⟩ := List.getElem?_eq_some_iff.1 hv
    obtain ⟨_, l', T', fr', hl', hx⟩ := block_of_cell (hc i hi)
    have e1 : (a.add i).block = a.block := by unfold Addr.add; split <;> rfl
    have e2 : (a.add i).off = a.off + i := by unfold Addr.add; split <;> simp_all
    rw [e1, hl] at hl'
    cases hl'
    rw [e2] at hx
    exact hx

section
variable {H : Type} {enc : TypeId × Value → H} {P : Program} {W : World} {base : Nat} {spare : Nat → Bool} {held : Bool}

theorem ro_nil {W : World} {c : Nat} : Ro (Cx.of W) ⟨none, 0, c⟩ [] := ⟨rfl, by simp, fun h => absurd rfl h⟩

/-- A slice of ints (64 bits) that came in. -/
theorem roI_of_trod {t e : TypeId} {fuel : Nat} {a : Option Addr} {n c : Nat} {x : DataW H × List MemPlace} (ht : P.underlying t = some (.slice e)) (he : P.underlying e = some (.int .i64)) (hc : P.cellsOf e = 1)
    (h : DataW.trod enc P W base spare held fuel t [.slice a n c] = some x) : ∃ xs, RoI (Cx.of W) ⟨a, n, c⟩ xs ∧ ∀ z ∈ xs, -9223372036854775808 ≤ z ∧ z < 9223372036854775808 := by
  rcases open_ints ht he hc h with ⟨hcs, _⟩ | ⟨x, l, cp, zs, hcs, _, hl, hm, hz, _, hcell, hwz⟩
  · simp at hcs
    obtain ⟨rfl, rfl, rfl⟩ := hcs
    exact ⟨[], ro_nil, fun z hz => by cases hz⟩
  · simp at hcs
    obtain ⟨rfl, rfl, rfl⟩ := hcs
    have hlz : n ≤ zs.length := by rw [hz]; split <;> omega
    refine ⟨zs.take n, ro_of_cells (by simp; omega) ?_ ?_, fun z hz => ?_⟩
    · unfold maxLen at hm; simp; omega
    · intro i hi
      simp at hi
      rw [hcell i (by omega)]
      have : i < zs.length := by omega
      simp [this]
    · have := hwz z (List.mem_of_mem_take hz)
      simp only [Lit.wf] at this
      simp [IntKind.min, IntKind.max, IntKind.bits, IntKind.signed] at this
      omega

end
end Go.VC
/- ROW, part 2: arguments that came in, by their types: what the contracts ask. No condition. -/
namespace Go.VC
open Go.ChangeShapes Go.WideShapes Go.ChangeAt Go.RowKit

section
variable {H : Type} {enc : TypeId × Value → H} {P : Program} {W : World} {r : Reach} {b0 : Nat} {t e : TypeId} {v : Value} {d : DataW H} {p : List MemPlace} {n : Nat}

theorem okWide_array (ht : P.underlying t = some (.array n e)) (h : Value.okWide P W r b0 t v) : ∃ cs, v = .agg cs ∧ cs.size = P.cellsOf t := by
  simp only [Value.okWide, ht] at h
  obtain ⟨cs, h1, h2, _⟩ := h
  exact ⟨cs, h1, h2⟩

/-- An array of one-cell elements. -/
theorem arr_in (ht : P.underlying t = some (.array n e)) (hc : P.cellsOf e = 1) (hC : P.cellsOf t = n) (hv : Value.okWide P W r b0 t v) (h : DataW.Trod enc P W 0 (fun _ => true) true t v d p) :
    ∃ cs : List Value, v = .agg cs.toArray ∧ cs.length = n ∧ ∀ c ∈ cs, ∃ m y, DataW.trod enc P W 0 (fun _ => true) true m e [c] = some y := by
  obtain ⟨cs, rfl, hsz⟩ := okWide_array ht hv
  obtain ⟨fuel, hf⟩ := h
  obtain ⟨xs, m, _, _, hl, hx, hi⟩ := DataW.trod_array ht hf
  refine ⟨cs.toList, by simp, by simpa [hC] using hsz, fun c hcm => ?_⟩
  obtain ⟨i, hlt, rfl⟩ := List.getElem_of_mem hcm
  have hin : i < n := by rw [← hC, ← hsz]; simpa using hlt
  have h2 := hi i hin
  rw [hc, Nat.mul_one] at h2
  have e1 : ((Value.agg cs).cells.toList.drop i).take 1 = [cs.toList[i]] := by
    show (cs.toList.drop i).take 1 = _
    rw [List.drop_eq_getElem_cons hlt]; rfl
  rw [e1] at h2
  have : i < xs.length := by omega
  exact ⟨m, xs[i], by rw [h2]; simp [this]⟩

/-- An array of integers. -/
theorem arrI_in {k : IntKind} (ht : P.underlying t = some (.array n e)) (he : P.underlying e = some (.int k)) (hc : P.cellsOf e = 1) (hC : P.cellsOf t = n) (hv : Value.okWide P W r b0 t v) (h : DataW.Trod enc P W 0 (fun _ => true) true t v d p) :
    ∃ A : List Int, A.length = n ∧ v = .agg (A.map (Value.int k)).toArray ∧ ∀ z ∈ A, (Lit.int k z).wf = true := by
  obtain ⟨cs, rfl, hl, hcs⟩ := arr_in ht hc hC hv h
  have : ∀ l : List Value, (∀ c ∈ l, ∃ m y, DataW.trod enc P W 0 (fun _ => true) true m e [c] = some y) → ∃ A : List Int, l = A.map (Value.int k) ∧ ∀ z ∈ A, (Lit.int k z).wf = true := by
    intro l
    induction l with
    | nil => exact fun _ => ⟨[], rfl, by simp⟩
    | cons c l ih =>
      intro hl
      obtain ⟨A, rfl, hA⟩ := ih fun c hc => hl c (List.mem_cons_of_mem _ hc)
      obtain ⟨m, y, hy⟩ := hl c List.mem_cons_self
      obtain ⟨z, hz, _, hw⟩ := DataW.trod_int he hy
      simp only [List.cons.injEq, and_true] at hz
      subst hz
      refine ⟨z :: A, rfl, fun z' hz' => ?_⟩
      rcases List.mem_cons.1 hz' with rfl | hz'
      · exact hw
      · exact hA z' hz'
  obtain ⟨A, rfl, hA⟩ := this cs hcs
  exact ⟨A, by simpa using hl, rfl, hA⟩

/-- A slice of ints. -/
theorem ints_in (ht : P.underlying t = some (.slice e)) (he : P.underlying e = some (.int .i64)) (hc : P.cellsOf e = 1) (hv : Value.okWide P W r b0 t v) (h : DataW.Trod enc P W 0 (fun _ => true) true t v d p) :
    ∃ s xs, v = .slice s.a s.len s.cap ∧ RoI (Cx.of W) s xs ∧ ∀ z ∈ xs, -9223372036854775808 ≤ z ∧ z < 9223372036854775808 := by
  obtain ⟨a, l, c, rfl⟩ := okWide_slice ht hv
  obtain ⟨fuel, hf⟩ := h
  obtain ⟨xs, hx, hb⟩ := roI_of_trod ht he hc (by simpa [Value.cells] using hf)
  exact ⟨⟨a, l, c⟩, xs, rfl, hx, hb⟩

/-- A struct of two slices of ints. -/
theorem two_in {f0 f1 : Field} {e0 e1 : TypeId} (hs : P.underlying t = some (.struct #[f0, f1])) (hone : Deep.oneCellFields P #[f0, f1] = true) (hC : P.cellsOf t = 2)
    (ht0 : P.underlying f0.type = some (.slice e0)) (he0 : P.underlying e0 = some (.int .i64)) (hc0 : P.cellsOf e0 = 1)
    (ht1 : P.underlying f1.type = some (.slice e1)) (he1 : P.underlying e1 = some (.int .i64)) (hc1 : P.cellsOf e1 = 1)
    (hv : Value.okWide P W r b0 t v) (h : DataW.Trod enc P W 0 (fun _ => true) true t v d p) :
    ∃ s t xs ys, v = .agg #[.slice s.a s.len s.cap, .slice t.a t.len t.cap] ∧ RoI (Cx.of W) s xs ∧ RoI (Cx.of W) t ys ∧ (∀ z ∈ xs, -9223372036854775808 ≤ z ∧ z < 9223372036854775808) ∧ (∀ z ∈ ys, -9223372036854775808 ≤ z ∧ z < 9223372036854775808) := by
  obtain ⟨v0, v1, y0, y1, n, rfl, _, _, h0, h1⟩ := Joins.open_agg2 hs hone hC hv h
  obtain ⟨a0, l0, c0, e0⟩ := Joins.slice_form ht0 h0
  obtain ⟨a1, l1, c1, e1⟩ := Joins.slice_form ht1 h1
  simp only [List.cons.injEq, and_true] at e0 e1
  subst e0 e1
  obtain ⟨xs, hx, hbx⟩ := roI_of_trod ht0 he0 hc0 h0
  obtain ⟨ys, hy, hby⟩ := roI_of_trod ht1 he1 hc1 h1
  exact ⟨⟨a0, l0, c0⟩, ⟨a1, l1, c1⟩, xs, ys, rfl, hx, hy, hbx, hby⟩

/-- An array of two slices of ints. -/
theorem arr2S_in {e' : TypeId} (ht : P.underlying t = some (.array 2 e)) (he : P.underlying e = some (.slice e')) (he' : P.underlying e' = some (.int .i64)) (hc' : P.cellsOf e' = 1) (hc : P.cellsOf e = 1) (hC : P.cellsOf t = 2) (hv : Value.okWide P W r b0 t v) (h : DataW.Trod enc P W 0 (fun _ => true) true t v d p) :
    ∃ s t xs ys, v = .agg #[.slice s.a s.len s.cap, .slice t.a t.len t.cap] ∧ RoI (Cx.of W) s xs ∧ RoI (Cx.of W) t ys := by
  obtain ⟨cs, rfl, hl, hcs⟩ := arr_in ht hc hC hv h
  match cs, hl, hcs with
  | [c0, c1], _, hcs =>
    obtain ⟨m0, y0, h0⟩ := hcs c0 (by simp)
    obtain ⟨m1, y1, h1⟩ := hcs c1 (by simp)
    obtain ⟨a0, l0, p0, e0⟩ := Joins.slice_form he h0
    obtain ⟨a1, l1, p1, e1⟩ := Joins.slice_form he h1
    simp only [List.cons.injEq, and_true] at e0 e1
    subst e0 e1
    obtain ⟨xs, hx, _⟩ := roI_of_trod he he' hc' h0
    obtain ⟨ys, hy, _⟩ := roI_of_trod he he' hc' h1
    exact ⟨⟨a0, l0, p0⟩, ⟨a1, l1, p1⟩, xs, ys, rfl, hx, hy⟩

end
end Go.VC
