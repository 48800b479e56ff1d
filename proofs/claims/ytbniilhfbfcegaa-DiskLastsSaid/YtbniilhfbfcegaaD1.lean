/- The disk: its state, what its memory holds, and what its small functions give. Condition: none. -/
import Derived.Test.YtbniilhfbfcegaaDB2
import Derived.Test.YtbniilhfbfcegaaSl8
namespace Go.Proofs.Ytbniilhfbfcegaa
open Go Go.VC

variable {R : Cx} {Hs Rest : List HP} {w : World}

/-! ### The state -/
structure Fl where
  b : List Int
  sure : Nat
abbrev Fs := List (ByteArray × Fl)
/-- How many bytes all have. -/
def total (fs : Fs) : Int := (fs.map fun e => (e.2.b.length : Int)).foldr (· + ·) 0
structure DS where
  room : Int
  fs : Fs
  fail : Int
  arm : Int
  off : Bool

/-! ### Names -/
def okCh (c : Int) : Bool := (decide (97 ≤ c) && decide (c ≤ 122)) || (decide (48 ≤ c) && decide (c ≤ 57)) || c == 46 || c == 45
def nameOk (s : ByteArray) : Bool := decide (s.size ≠ 0) && decide (s.size ≤ 64) && (bytesL s).all okCh

theorem eql_empty (s : ByteArray) : (s.toList == (ByteArray.mk #[]).toList) = decide (s.size = 0) := by
  have : (ByteArray.mk #[]).toList = [] := by rw [ByteArray.toList_eq]
  rw [ByteArray.toList_eq, this, show s.size = s.data.toList.length from (Array.length_toList (xs := s.data)).symm]
  cases s.data.toList <;> simp

theorem drop_get {α : Type} {l : List α} {k : Nat} (h : k < l.length) : l.drop k = l[k] :: l.drop (k + 1) := List.drop_eq_getElem_cons h

theorem named_spec {s : Sl} {names : List ByteArray} (hw : Sat R Hs w) (hs : Ro R s (names.map Value.string)) (hn : names.length ≤ 1000) :
    Gets Try.prog 29 #[.slice s.a s.len s.cap] w fun r w' => r = .bool (names.all nameOk) ∧ Sat R Hs w' := by
  have hl : s.len = names.length := by have := hs.len; simpa using this
  apply call29
  refine ⟨fun i w => ∃ k : Nat, i = k ∧ k ≤ names.length ∧ names.all nameOk = (names.drop k).all nameOk ∧ Sat R Hs w, fun i _ => names.length - i.toNat, ⟨0, rfl, Nat.zero_le _, rfl, hw⟩, ?_⟩
  rintro z _ w ⟨k, rfl, hk, he, hw⟩
  refine Br.mk (fun h => ?_) (fun h => ?_) <;> simp only [decide_eq_true_eq, decide_eq_false_iff_not] at h
  · have hk' : k < names.length := by omega
    rw [drop_get hk', List.all_cons] at he
    refine hs.idxStr (eqS hw) hk' ?_
    refine ⟨fun w => names[k].size ≠ 0 ∧ names[k].size ≤ 64 ∧ Sat R Hs w, ?_, ?_⟩
    · rw [eql_empty]
      refine Br.mk (fun h1 => ⟨?_, hw⟩) (fun h1 => Br.mk (fun h2 => ⟨?_, hw⟩) (fun h2 => ?_))
      · rw [he]; simp only [decide_eq_true_eq] at h1; simp [nameOk, h1]
      · rw [he]; simp only [decide_eq_true_eq] at h2; simp [nameOk]; omega
      · simp only [decide_eq_false_iff_not] at h1 h2; exact ⟨h1, by omega, hw⟩
    rintro z w ⟨h1, h2, hw⟩
    refine convB_rule Try.underlying9 Try.underlying31 Try.underlying5 hw fun t w hw => ?_
    have hbl := bytesL_len names[k]
    have hok : nameOk names[k] = (bytesL names[k]).all okCh := by simp [nameOk, h1, h2]
    have ht := Own.len hw
    rw [List.length_map] at ht
    refine ⟨fun j w => ∃ i : Nat, j = i ∧ i ≤ (bytesL names[k]).length ∧ nameOk names[k] = ((bytesL names[k]).drop i).all okCh ∧ Sat R (Own t 5 ((bytesL names[k]).map (Value.int .u8)) :: Hs) w, fun j _ => (bytesL names[k]).length - j.toNat, ⟨0, rfl, Nat.zero_le _, hok, hw⟩, ?_⟩
    rintro z _ w ⟨i, rfl, hi, hio, hw⟩
    refine Br.mk (fun h3 => ?_) (fun h3 => ?_) <;> simp only [decide_eq_true_eq, decide_eq_false_iff_not] at h3
    · have hi' : i < (bytesL names[k]).length := by omega
      rw [drop_get hi', List.all_cons] at hio
      refine Own.idx hw (eqS hw) hi' ?_
      generalize (bytesL names[k])[i] = c at hio
      rw [wrap64 (by omega) (by omega)]
      have yes : okCh c = true → (∃ i' : Nat, ((i : Int) + 1) = i' ∧ i' ≤ (bytesL names[k]).length ∧ nameOk names[k] = ((bytesL names[k]).drop i').all okCh ∧ Sat R (Own t 5 ((bytesL names[k]).map (Value.int .u8)) :: Hs) w) ∧
          (bytesL names[k]).length - ((i : Int) + 1).toNat < (bytesL names[k]).length - (i : Int).toNat := fun hc => by
        rw [hc, Bool.true_and] at hio
        exact ⟨⟨i + 1, by omega, by omega, hio, hw⟩, by omega⟩
      have no : okCh c = false → Value.bool false = .bool (names.all nameOk) ∧ Sat R Hs w := fun hc => by
        rw [hc, Bool.false_and] at hio
        rw [hio, Bool.false_and] at he
        exact ⟨by rw [he], hw.drop⟩
      have hd : okCh c = ((decide (97 ≤ c) && decide (c ≤ 122)) || (decide (48 ≤ c) && decide (c ≤ 57)) || c == 46 || c == 45) := rfl
      have p : ∀ {q : Prop} [Decidable q], decide q = true → q := of_decide_eq_true
      refine Br.mk (fun a1 => Br.mk (fun a2 => Br.mk (fun a3 => Br.mk (fun a4 => no ?_) (fun a4 => yes ?_)) (fun a3 => yes ?_)) (fun a2 => Br.mk (fun a3 => Br.mk (fun a4 => Br.mk (fun a5 => no ?_) (fun a5 => yes ?_)) (fun a4 => yes ?_)) (fun a3 => yes ?_)))
        (fun a1 => Br.mk (fun a2 => Br.mk (fun a3 => Br.mk (fun a4 => Br.mk (fun a5 => no ?_) (fun a5 => yes ?_)) (fun a4 => yes ?_)) (fun a3 => Br.mk (fun a4 => Br.mk (fun a5 => Br.mk (fun a6 => no ?_) (fun a6 => yes ?_)) (fun a5 => yes ?_)) (fun a4 => yes ?_))) (fun a2 => yes ?_))
      all_goals
        simp only [decide_eq_true_eq, decide_eq_false_iff_not, bne_iff_ne, ne_eq, bne_eq_false_iff_eq] at *
        simp only [okCh, Bool.or_eq_true, Bool.and_eq_true, decide_eq_true_eq, beq_iff_eq, Bool.or_eq_false_iff, Bool.and_eq_false_iff, decide_eq_false_iff_not, beq_eq_false_iff_ne, ne_eq]
        omega
    · have : i = (bytesL names[k]).length := by omega
      subst this
      rw [List.drop_length] at hio
      rw [hio] at he
      rw [wrap64 (by omega) (by omega)]
      exact ⟨⟨k + 1, by omega, by omega, by rw [he]; rfl, hw.drop⟩, by dsimp only; omega⟩
  · have : k = names.length := by omega
    subst this
    rw [List.drop_length] at he
    exact ⟨by rw [he]; rfl, hw⟩

end Go.Proofs.Ytbniilhfbfcegaa
