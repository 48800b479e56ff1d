/- QuorumChanges: the change, in plain words. No condition. -/
import Derived.Test.YtjbpncdealpmhaaQ13
namespace Go.Proofs.Ytjbpncdealpmhaa
open Go Go.VC

variable {v l : List Int} {n : Int}

theorem rises_pw : ∀ {l : List Int} {a : Int}, risesL a l = true → l.Pairwise (· ≤ ·)
  | [], _, _ => List.Pairwise.nil
  | x :: l, a, h => by
    simp only [risesL, Bool.and_eq_true, Bool.not_eq_true', decide_eq_false_iff_not] at h
    refine List.pairwise_cons.2 ⟨fun y hy => ?_, rises_pw h.2⟩
    have := rises_mem h.2 y hy
    omega

theorem sort_of_pw {v : List Int} (h : v.Pairwise (· ≤ ·)) : sortL v = v := by
  unfold sortL
  refine List.mergeSort_of_pairwise (h.imp fun h => by simpa using h)

theorem sort_without (h : risesL 0 v = true) : sortL (withoutL n v) = withoutL n v := sort_of_pw ((rises_pw h).filter _)

theorem withL_perm (n : Int) : ∀ v : List Int, (withL n v).Perm (n :: v)
  | [] => List.Perm.refl _
  | x :: v => by
    unfold withL
    split
    · exact List.Perm.refl _
    · exact ((withL_perm n v).cons x).trans (List.Perm.swap _ _ _)

theorem withL_pw {n : Int} : ∀ {v : List Int}, v.Pairwise (· ≤ ·) → (withL n v).Pairwise (· ≤ ·)
  | [], _ => List.pairwise_singleton _ _
  | x :: v, h => by
    have hx := List.pairwise_cons.1 h
    unfold withL
    split
    · rename_i hn
      refine List.pairwise_cons.2 ⟨fun y hy => ?_, h⟩
      rcases List.mem_cons.1 hy with rfl | hy
      · omega
      · have := hx.1 y hy; omega
    · rename_i hn
      refine List.pairwise_cons.2 ⟨fun y hy => ?_, withL_pw hx.2⟩
      rcases List.mem_cons.1 ((withL_perm n v).mem_iff.1 hy) with rfl | hy
      · omega
      · exact hx.1 y hy

theorem without_not (h : hasL v n = false) : withoutL n v = v :=
  List.filter_eq_self.2 fun x hx => by
    have : x ≠ n := fun e => by
      have := hasL_mem.2 (e ▸ hx); rw [h] at this; cases this
    simpa using this

theorem sort_with (h : risesL 0 v = true) (hn : hasL v n = false) : sortL (withoutL n v ++ [n]) = withL n v := by
  rw [without_not hn]
  refine List.Perm.eq_of_pairwise (le := (· ≤ ·)) (fun a b _ _ h1 h2 => Int.le_antisymm h1 h2) (sortL_pw _) (withL_pw (rises_pw h)) ?_
  exact (sortL_perm _).trans ((List.perm_append_comm).trans (withL_perm n v).symm)

theorem right_disj (h : rightG v l = true) (hn : hasL l n = true) : hasL v n = false := by
  simp only [rightG, Bool.and_eq_true, countL_zero, List.all_eq_true, Bool.not_eq_true'] at h
  cases hv : hasL v n
  · rfl
  · have := h.2 n (hasL_mem.1 hv); rw [hn] at this; cases this

theorem len_without : ∀ {v : List Int}, v.Nodup → hasL v n = true → (withoutL n v).length + 1 = v.length
  | [], _, h => by simp [hasL] at h
  | x :: v, hd, h => by
    obtain ⟨h1, h2⟩ := List.nodup_cons.1 hd
    by_cases hx : x = n
    · subst hx
      have hv : hasL v x = false := by
        cases hv : hasL v x
        · rfl
        · exact absurd (hasL_mem.1 hv) h1
      have : withoutL x (x :: v) = withoutL x v := by simp [withoutL]
      rw [this, without_not hv]; rfl
    · have hv : hasL v n = true := by
        simp only [hasL, Bool.or_eq_true, beq_iff_eq, hx, false_or] at h; exact h
      have : withoutL n (x :: v) = x :: withoutL n v := by simp [withoutL, hx]
      rw [this, List.length_cons, List.length_cons, len_without h2 hv]

/-- The change. -/
def chG (v l : List Int) (kind n : Int) : List Int × List Int × Int :=
  if (!rightG v l || decide (kind < 1) || decide (kind > 3) || decide (n < 1) || decide (n > 15)) = true then ([], [], 1)
  else if kind == 1 then (if hasL v n || hasL l n then ([], [], 7) else (withoutL n v, withL n l, 0))
  else if kind == 2 then (if !hasL l n then ([], [], 7) else (withL n v, withoutL n l, 0))
  else if (!hasL v n && !hasL l n) || (hasL v n && v.length == 1) then ([], [], 7) else (withoutL n v, withoutL n l, 0)

structure ChOk (v l : List Int) (kind n : Int) : Prop where
  right : rightG v l = true
  k0 : 1 ≤ kind
  k1 : kind ≤ 3
  n0 : 1 ≤ n
  n1 : n ≤ 15

theorem ChOk.eq {kind : Int} (h : ChOk v l kind n) : chG v l kind n =
    if kind == 1 then (if hasL v n || hasL l n then ([], [], 7) else (withoutL n v, withL n l, 0))
    else if kind == 2 then (if !hasL l n then ([], [], 7) else (withL n v, withoutL n l, 0))
    else if (!hasL v n && !hasL l n) || (hasL v n && v.length == 1) then ([], [], 7) else (withoutL n v, withoutL n l, 0) := by
  unfold chG
  have h1 := h.k0; have h2 := h.k1; have h3 := h.n0; have h4 := h.n1
  rw [if_neg]
  simp [h.right]; omega

theorem chG_arg {kind : Int} (h : rightG v l = false ∨ kind < 1 ∨ kind > 3 ∨ n < 1 ∨ n > 15) : chG v l kind n = ([], [], 1) := by
  unfold chG
  rw [if_pos]
  rcases h with h | h | h | h | h <;> simp [h]

/-- What the program does of it: may it, and the lists before they are sorted. -/
structure ChDone (v l : List Int) (kind n : Int) (may : Bool) (a b : List Int) : Prop where
  yes : may = true → chG v l kind n = (sortL a, sortL b, 0)
  no : may = false → chG v l kind n = ([], [], 7)

theorem done1 (h : ChOk v l 1 n) : ChDone v l 1 n (!hasL v n && !hasL l n) (withoutL n v) (withoutL n l ++ [n]) := by
  refine ⟨fun hm => ?_, fun hm => ?_⟩ <;> rw [h.eq] <;> simp only [beq_self_eq_true, if_true]
  · simp only [Bool.and_eq_true, Bool.not_eq_true'] at hm
    rw [hm.1, hm.2, sort_without (right_rises h.right), sort_with (right_risesL h.right) hm.2]; rfl
  · rw [if_pos]
    cases h1 : hasL v n <;> cases h2 : hasL l n <;> simp_all

theorem done2 (h : ChOk v l 2 n) : ChDone v l 2 n (hasL l n) (withoutL n v ++ [n]) (withoutL n l) := by
  refine ⟨fun hm => ?_, fun hm => ?_⟩ <;> rw [h.eq] <;> simp only [show ((2 : Int) == 1) = false from rfl, beq_self_eq_true, if_true, Bool.false_eq_true, if_false]
  · rw [hm, sort_without (right_risesL h.right), sort_with (right_rises h.right) (right_disj h.right hm)]; rfl
  · rw [hm]; rfl

theorem done3 (h : ChOk v l 3 n) : ChDone v l 3 n (hasL l n || (hasL v n && decide (((withoutL n v).length : Int) > 0))) (withoutL n v) (withoutL n l) := by
  refine ⟨fun hm => ?_, fun hm => ?_⟩ <;> rw [h.eq] <;> simp only [show ((3 : Int) == 1) = false from rfl, show ((3 : Int) == 2) = false from rfl, Bool.false_eq_true, if_false]
  · rw [sort_without (right_risesL h.right), sort_without (right_rises h.right), if_neg]
    cases h1 : hasL l n
    · rw [h1, Bool.false_or, Bool.and_eq_true, decide_eq_true_eq] at hm
      have := len_without (rises_nodup (right_rises h.right)) hm.1
      simp [hm.1]; omega
    · rw [right_disj h.right h1]; simp
  · rw [if_pos]
    simp only [Bool.or_eq_false_iff] at hm
    obtain ⟨h1, h2⟩ := hm
    cases h3 : hasL v n
    · simp [h1]
    · rw [h3, Bool.true_and, decide_eq_false_iff_not] at h2
      have := len_without (rises_nodup (right_rises h.right)) h3
      simp; omega

end Go.Proofs.Ytjbpncdealpmhaa
