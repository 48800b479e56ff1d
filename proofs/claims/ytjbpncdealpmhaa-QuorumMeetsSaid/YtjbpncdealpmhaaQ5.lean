/- The middle, in plain words. No condition. -/
import Derived.Test.YtjbpncdealpmhaaQ3
namespace Go.Proofs.Ytjbpncdealpmhaa
open Go Go.VC

theorem rises_mem : ∀ {l : List Int} {a : Int}, risesL a l = true → ∀ n ∈ l, a < n ∧ n ≤ 15
  | [], _, _, n, hn => by simp at hn
  | x :: l, a, h, n, hn => by
    simp only [risesL, Bool.and_eq_true, Bool.not_eq_true', decide_eq_false_iff_not] at h
    rcases List.mem_cons.1 hn with rfl | hn
    · omega
    · have := rises_mem h.2 n hn; omega
theorem rises_len : ∀ {l : List Int} {a : Int}, risesL a l = true → 0 ≤ a → l ≠ [] → a + l.length ≤ 15
  | [], _, _, _, h => absurd rfl h
  | x :: l, a, h, ha, _ => by
    simp only [risesL, Bool.and_eq_true, Bool.not_eq_true', decide_eq_false_iff_not] at h
    by_cases hl : l = []
    · subst hl; simp; omega
    · have := rises_len h.2 (by omega) hl
      simp only [List.length_cons]; omega
theorem rises_len15 {l : List Int} (h : risesL 0 l = true) : l.length ≤ 15 := by
  by_cases hl : l = []
  · subst hl; simp
  · have := rises_len h (Int.le_refl 0) hl; omega

theorem right_rises {v l : List Int} (h : rightG v l = true) : risesL 0 v = true := by
  simp only [rightG, Bool.and_eq_true] at h; exact h.1.1.1
theorem right_risesL {v l : List Int} (h : rightG v l = true) : risesL 0 l = true := by
  simp only [rightG, Bool.and_eq_true] at h; exact h.1.1.2
theorem right_pos {v l : List Int} (h : rightG v l = true) : 0 < v.length := by
  simp only [rightG, Bool.and_eq_true, decide_eq_true_eq] at h; exact h.1.2

theorem getD_lt {l : List Int} {k : Nat} (h : k < l.length) : l.getD k 0 = l[k] := by simp [List.getD, h]

/-- What stands at n. -/
def pick (A : List Int) (n : Int) : Int := A.getD n.toNat 0
def sortL (l : List Int) : List Int := l.mergeSort fun x y => decide (x ≤ y)
def midL (v l A : List Int) : Int := if rightG v l then (sortL (v.map (pick A))).getD (v.length - (v.length / 2 + 1)) 0 else 0

theorem sortL_perm (l : List Int) : (sortL l).Perm l := List.mergeSort_perm _ _
theorem sortL_len (l : List Int) : (sortL l).length = l.length := (sortL_perm l).length_eq
theorem sortL_pw (l : List Int) : (sortL l).Pairwise (· ≤ ·) := by
  have := List.pairwise_mergeSort (le := fun x y : Int => decide (x ≤ y)) (fun a b c h1 h2 => by simp only [decide_eq_true_eq] at *; omega) (fun a b => by simp only [Bool.or_eq_true, decide_eq_true_eq]; omega) l
  unfold sortL
  simpa using this
theorem countL_perm (p : Int → Bool) {l l' : List Int} (h : l.Perm l') : countL p l = countL p l' := by
  unfold countL; rw [(h.filter p).length_eq]
theorem countL_app (p : Int → Bool) (l l' : List Int) : countL p (l ++ l') = countL p l + countL p l' := by
  unfold countL; simp
theorem countL_all {p : Int → Bool} {l : List Int} (h : ∀ x ∈ l, p x = true) : countL p l = l.length := by
  unfold countL; rw [List.filter_eq_self.2 h]
theorem countL_none {p : Int → Bool} {l : List Int} (h : ∀ x ∈ l, p x = false) : countL p l = 0 := by
  unfold countL; rw [List.filter_eq_nil_iff.2 (by intro x hx; simp [h x hx])]; rfl
theorem countL_mono {p q : Int → Bool} : ∀ {l : List Int}, (∀ x ∈ l, p x = true → q x = true) → countL p l ≤ countL q l
  | [], _ => by simp [countL]
  | x :: l, h => by
    have ih := countL_mono (l := l) (p := p) (q := q) fun y hy => h y (List.mem_cons_of_mem _ hy)
    have hx := h x List.mem_cons_self
    simp only [countL, List.filter_cons] at ih ⊢
    cases hp : p x
    · cases hq : q x <;> simp <;> omega
    · rw [hx hp]; simp; omega
theorem countL_map (p : Int → Bool) (f : Int → Int) (l : List Int) : countL p (l.map f) = countL (fun n => p (f n)) l := by
  unfold countL; rw [List.filter_map, List.length_map]; rfl

/-- So many are at least the k-th of the sorted; not so many are greater. -/
theorem sorted_counts {S : List Int} (h : S.Pairwise (· ≤ ·)) {k : Nat} (hk : k < S.length) :
    countL (fun n => decide (n ≥ S[k])) S ≥ (S.length - k : Nat) ∧ countL (fun n => decide (n > S[k])) S ≤ (S.length - k - 1 : Nat) := by
  have h2 : S = S.take k ++ S[k] :: S.drop (k + 1) := by rw [← List.drop_eq_getElem_cons hk, List.take_append_drop]
  have hp := h
  rw [h2, List.pairwise_append] at hp
  obtain ⟨_, hd, hc⟩ := hp
  obtain ⟨hd1, _⟩ := List.pairwise_cons.1 hd
  constructor
  · have e : countL (fun n => decide (n ≥ S[k])) S = countL (fun n => decide (n ≥ S[k])) (S.take k) + countL (fun n => decide (n ≥ S[k])) (S.drop k) := by
      rw [← countL_app, List.take_append_drop]
    have e2 : countL (fun n => decide (n ≥ S[k])) (S.drop k) = (S.drop k).length := countL_all fun x hx => by
      rw [List.drop_eq_getElem_cons hk] at hx
      rcases List.mem_cons.1 hx with rfl | hx
      · simp
      · have := hd1 x hx; simpa using this
    have := countL_nn (fun n => decide (n ≥ S[k])) (S.take k)
    rw [e, e2, List.length_drop]; omega
  · have e : countL (fun n => decide (n > S[k])) S = countL (fun n => decide (n > S[k])) (S.take (k + 1)) + countL (fun n => decide (n > S[k])) (S.drop (k + 1)) := by
      rw [← countL_app, List.take_append_drop]
    have e2 : countL (fun n => decide (n > S[k])) (S.take (k + 1)) = 0 := countL_none fun x hx => by
      rw [List.take_succ_eq_append_getElem hk] at hx
      simp only [decide_eq_false_iff_not]
      rcases List.mem_append.1 hx with hx | hx
      · have := hc x hx S[k] List.mem_cons_self; omega
      · simp at hx; omega
    have := countL_le (fun n => decide (n > S[k])) (S.drop (k + 1))
    rw [List.length_drop] at this
    rw [e, e2]; omega

/-- What the middle is told by. -/
structure IsMid (all : List Int) (m : Int) : Prop where
  mem : m ∈ all
  many : countL (fun n => decide (n ≥ m)) all ≥ ((all.length / 2 + 1 : Nat) : Int)
  few : countL (fun n => decide (n > m)) all < ((all.length / 2 + 1 : Nat) : Int)

theorem IsMid.of_sort {all : List Int} (h : 0 < all.length) : IsMid all ((sortL all).getD (all.length - (all.length / 2 + 1)) 0) := by
  have hl := sortL_len all
  have hk : all.length - (all.length / 2 + 1) < (sortL all).length := by omega
  rw [getD_lt hk]
  have hc := sorted_counts (sortL_pw all) hk
  rw [countL_perm _ (sortL_perm all), countL_perm _ (sortL_perm all), hl] at hc
  refine ⟨(sortL_perm all).mem_iff.1 (List.getElem_mem hk), by omega, by omega⟩

theorem IsMid.le {all : List Int} {m n : Int} (h : IsMid all m) (hn : countL (fun x => decide (x ≥ n)) all ≥ ((all.length / 2 + 1 : Nat) : Int)) : n ≤ m := by
  by_cases hm : n ≤ m
  · exact hm
  · have := countL_mono (l := all) (p := fun x => decide (x ≥ n)) (q := fun x => decide (x > m)) (fun x _ hx => by simp only [decide_eq_true_eq] at *; omega)
    have := h.few
    omega

theorem mid_is {v l A : List Int} (h : rightG v l = true) : IsMid (v.map (pick A)) (midL v l A) := by
  unfold midL
  rw [if_pos h]
  have := IsMid.of_sort (all := v.map (pick A)) (by simpa using right_pos h)
  simpa using this

/-- The reference's search. -/
structure Best (all : List Int) (seen : List Int) (best : Int) (found : Bool) : Prop where
  ok : found = true → best ∈ all ∧ countL (fun x => decide (x ≥ best)) all ≥ ((all.length / 2 + 1 : Nat) : Int)
  top : ∀ n ∈ seen, countL (fun x => decide (x ≥ n)) all ≥ ((all.length / 2 + 1 : Nat) : Int) → found = true ∧ n ≤ best

theorem Best.done {all : List Int} {m best : Int} {found : Bool} (h : IsMid all m) (b : Best all all best found) : best = m := by
  obtain ⟨hf, hle⟩ := b.top m h.mem h.many
  have := h.le (b.ok hf).2
  omega

theorem Best.skip {all seen : List Int} {n best : Int} {found : Bool} (b : Best all seen best found) (h : ¬ countL (fun x => decide (x ≥ n)) all ≥ ((all.length / 2 + 1 : Nat) : Int)) : Best all (seen ++ [n]) best found :=
  ⟨b.ok, fun x hx hc => by
    rcases List.mem_append.1 hx with hx | hx
    · exact b.top x hx hc
    · simp at hx; subst hx; exact absurd hc h⟩
theorem Best.keep {all seen : List Int} {n best : Int} (b : Best all seen best true) (h : n ≤ best) : Best all (seen ++ [n]) best true :=
  ⟨b.ok, fun x hx hc => by
    rcases List.mem_append.1 hx with hx | hx
    · exact b.top x hx hc
    · simp at hx; subst hx; exact ⟨rfl, h⟩⟩
theorem Best.put {all seen : List Int} {n best : Int} {found : Bool} (b : Best all seen best found) (hn : n ∈ all) (h : found = false ∨ n > best) (hc : countL (fun x => decide (x ≥ n)) all ≥ ((all.length / 2 + 1 : Nat) : Int)) : Best all (seen ++ [n]) n true :=
  ⟨fun _ => ⟨hn, hc⟩, fun x hx hx2 => by
    rcases List.mem_append.1 hx with hx | hx
    · obtain ⟨h1, h2⟩ := b.top x hx hx2
      rcases h with h | h
      · rw [h1] at h; cases h
      · exact ⟨rfl, by omega⟩
    · simp at hx; subst hx; exact ⟨rfl, Int.le_refl _⟩⟩

end Go.Proofs.Ytjbpncdealpmhaa
