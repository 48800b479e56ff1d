/- What the functions of QuorumCounts give: contracts over memory that is only read. Condition: slices of at most 2^47 elements. -/
import Derived.Test.YtjbpncdealpmhaaQB1
namespace Go.Proofs.Ytjbpncdealpmhaa
open Go Go.VC

/-! ### Plain -/
def risesL : Int → List Int → Bool
  | _, [] => true
  | last, n :: l => !decide (n ≤ last) && !decide (n > 15) && risesL n l
def hasL : List Int → Int → Bool
  | [], _ => false
  | x :: l, n => x == n || hasL l n
def countL (p : Int → Bool) (l : List Int) : Int := (l.filter p).length

theorem drop_get {α : Type} {l : List α} {k : Nat} (h : k < l.length) : l.drop k = l[k] :: l.drop (k + 1) := List.drop_eq_getElem_cons h

/-! ### Contracts -/
variable {R : Cx} {Hs : List HP} {w : World}

theorem rises_spec {s : Sl} {xs : List Int} (hw : Sat R Hs w) (hs : RoI R s xs) :
    Gets Try.prog 26 #[.slice s.a s.len s.cap] w fun v w' => v = .bool (risesL 0 xs) ∧ Sat R Hs w' := by
  have hl := RoI.len hs
  have hb := RoI.bound hs
  apply call26
  refine ⟨fun last i w => ∃ k : Nat, i = k ∧ k ≤ xs.length ∧ risesL 0 xs = risesL last (xs.drop k) ∧ Sat R Hs w, fun _ i _ => xs.length - i.toNat, ⟨0, rfl, Nat.zero_le _, rfl, hw⟩, ?_⟩
  rintro z last _ w ⟨k, rfl, hk, hr, hw⟩
  refine Br.mk (fun h => ?_) (fun h => ?_) <;> simp only [decide_eq_true_eq, decide_eq_false_iff_not] at h
  · have hk' : k < xs.length := by omega
    rw [drop_get hk'] at hr
    refine hs.idx (eqS hw) hk' ?_
    refine Br.mk (fun h1 => ?_) (fun h1 => Br.mk (fun h2 => ?_) (fun h2 => ?_))
    · exact ⟨by rw [hr]; simp [risesL, h1], hw⟩
    · exact ⟨by rw [hr]; simp [risesL, h1, h2], hw⟩
    · rw [wrap64 (by omega) (by omega)]
      refine ⟨⟨k + 1, by omega, by omega, ?_, hw⟩, by dsimp only; omega⟩
      rw [hr]; simp [risesL, h1, h2]
  · have : k = xs.length := by omega
    subst this
    exact ⟨by rw [hr]; simp [risesL], hw⟩

theorem index_spec {s : Sl} {xs : List Int} (n : Int) (hw : Sat R Hs w) (hs : RoI R s xs) :
    Gets Try.prog 43 #[.slice s.a s.len s.cap, .int .i64 n] w fun v w' => (∃ i : Int, v = .int .i64 i ∧ decide (i ≥ 0) = hasL xs n) ∧ Sat R Hs w' := by
  have hl := RoI.len hs
  have hb := RoI.bound hs
  apply call43
  refine ⟨fun i w => ∃ k : Nat, i = k ∧ k ≤ xs.length ∧ hasL xs n = hasL (xs.drop k) n ∧ Sat R Hs w, fun i _ => xs.length - i.toNat, ⟨0, rfl, Nat.zero_le _, rfl, hw⟩, ?_⟩
  rintro z _ w ⟨k, rfl, hk, hr, hw⟩
  refine Br.mk (fun h => ?_) (fun h => ?_) <;> simp only [decide_eq_true_eq, decide_eq_false_iff_not] at h
  · have hk' : k < xs.length := by omega
    rw [drop_get hk'] at hr
    refine hs.idx (eqS hw) hk' ?_
    refine Br.mk (fun h1 => ?_) (fun h1 => ?_) <;> simp only [beq_iff_eq, beq_eq_false_iff_ne, ne_eq] at h1
    · refine ⟨⟨_, rfl, ?_⟩, hw⟩
      rw [hr]; simp [hasL, h1]
    · rw [wrap64 (by omega) (by omega)]
      refine ⟨⟨k + 1, by omega, by omega, ?_, hw⟩, by dsimp only; omega⟩
      rw [hr]; simp [hasL, Ne.symm h1]
  · have : k = xs.length := by omega
    subst this
    exact ⟨⟨_, rfl, by rw [hr]; simp [hasL]⟩, hw⟩

theorem contains_spec {s : Sl} {xs : List Int} (n : Int) (hw : Sat R Hs w) (hs : RoI R s xs) :
    Gets Try.prog 39 #[.slice s.a s.len s.cap, .int .i64 n] w fun v w' => v = .bool (hasL xs n) ∧ Sat R Hs w' := by
  apply call39
  refine (index_spec n hw hs).use ?_
  rintro _ w ⟨⟨i, rfl, hi⟩, hw⟩
  exact ⟨_, rfl, by rw [hi], hw⟩

theorem has_spec {s : Sl} {xs : List Int} (n : Int) (hw : Sat R Hs w) (hs : RoI R s xs) :
    Gets Try.prog 22 #[.slice s.a s.len s.cap, .int .i64 n] w fun v w' => v = .bool (hasL xs n) ∧ Sat R Hs w' := by
  have hl := RoI.len hs
  have hb := RoI.bound hs
  apply call22
  refine ⟨fun i w => ∃ k : Nat, i = k ∧ k ≤ xs.length ∧ hasL xs n = hasL (xs.drop k) n ∧ Sat R Hs w, fun i _ => xs.length - i.toNat, ⟨0, rfl, Nat.zero_le _, rfl, hw⟩, ?_⟩
  rintro z _ w ⟨k, rfl, hk, hr, hw⟩
  refine Br.mk (fun h => ?_) (fun h => ?_) <;> simp only [decide_eq_true_eq, decide_eq_false_iff_not] at h
  · have hk' : k < xs.length := by omega
    rw [drop_get hk'] at hr
    refine hs.idx (eqS hw) hk' ?_
    refine Br.mk (fun h1 => ?_) (fun h1 => ?_) <;> simp only [beq_iff_eq, beq_eq_false_iff_ne, ne_eq] at h1
    · refine ⟨?_, hw⟩
      rw [hr]; simp [hasL, h1]
    · rw [wrap64 (by omega) (by omega)]
      refine ⟨⟨k + 1, by omega, by omega, ?_, hw⟩, by dsimp only; omega⟩
      rw [hr]; simp [hasL, h1]
  · have : k = xs.length := by omega
    subst this
    exact ⟨by rw [hr]; simp [hasL], hw⟩

theorem among1_spec {s : Sl} {xs : List Int} (n : Int) {b : Nat} {T : TypeId} {Rest : List HP} [TakeP b Hs (.cells [.slice s.a s.len s.cap].toArray T (0, 0)) Rest] (hw : Sat R Hs w) (hs : RoI R s xs) :
    Gets Try.prog 38 #[.int .i64 n, .pointer (some ⟨b, 0, none⟩)] w fun v w' => v = .bool (hasL xs n) ∧ Sat R Hs w' := by
  apply call38
  refine ⟨s, At.own (eqS hw) (by exact ⟨rfl, trivial⟩), ?_⟩
  refine (contains_spec n hw hs).use ?_
  rintro _ w ⟨rfl, hw⟩
  exact ⟨_, rfl, rfl, hw⟩

theorem count_spec {s : Sl} {xs : List Int} {f : Value} (p : Int → Bool) (hw : Sat R Hs w) (hs : RoI R s xs)
    (hf : ∀ (n : Int) (w : World), Sat R Hs w → CalW Try.prog cl f [.int .i64 n] w (fun e w' => e = .returned (.bool (p n)) ∧ Sat R Hs w')) :
    Gets Try.prog 27 #[.slice s.a s.len s.cap, f] w fun v w' => v = .int .i64 (countL p xs) ∧ Sat R Hs w' := by
  have hl := RoI.len hs
  have hb := RoI.bound hs
  apply call27
  refine ⟨fun c i w => ∃ k : Nat, i = k ∧ k ≤ xs.length ∧ c = countL p (xs.take k) ∧ Sat R Hs w, fun _ i _ => xs.length - i.toNat, ⟨0, rfl, Nat.zero_le _, rfl, hw⟩, ?_⟩
  rintro z _ _ w ⟨k, rfl, hk, rfl, hw⟩
  refine Br.mk (fun h => ?_) (fun h => ?_) <;> simp only [decide_eq_true_eq, decide_eq_false_iff_not] at h
  · have hk' : k < xs.length := by omega
    refine hs.idx (eqS hw) hk' ?_
    have hc : countL p (xs.take k) ≤ k := by
      unfold countL; have := List.length_filter_le p (xs.take k); simp at this; omega
    have hc0 : 0 ≤ countL p (xs.take k) := by unfold countL; omega
    refine (hf xs[k] w hw).mono ?_
    rintro _ w ⟨rfl, hw⟩
    refine ⟨_, rfl, ?_⟩
    have ht : countL p (xs.take (k + 1)) = countL p (xs.take k) + if p xs[k] then 1 else 0 := by
      unfold countL
      rw [List.take_succ_eq_append_getElem hk', List.filter_append]
      cases hp : p xs[k] <;> simp [hp]
    refine Br.mk (fun h1 => ?_) (fun h1 => ?_)
    · rw [wrap64 (by omega) (by omega), wrap64 (by omega) (by omega)]
      exact ⟨⟨k + 1, by omega, by omega, by rw [ht, h1]; rfl, hw⟩, by dsimp only; omega⟩
    · rw [wrap64 (x := (k : Int) + 1) (by omega) (by omega)]
      exact ⟨⟨k + 1, by omega, by omega, by rw [ht, h1]; simp, hw⟩, by dsimp only; omega⟩
  · have : k = xs.length := by omega
    subst this
    exact ⟨by simp, hw⟩

end Go.Proofs.Ytjbpncdealpmhaa
