/- QuorumChanges, QuorumUndo, QuorumMeets: plain. No condition. -/
import Derived.Test.YtjbpncdealpmhaaQ16
namespace Go.Proofs.Ytjbpncdealpmhaa
open Go Go.VC

variable {v l : List Int} {n : Int}

theorem right_iff : rightG v l = true ↔ risesL 0 v = true ∧ risesL 0 l = true ∧ v ≠ [] ∧ ∀ m ∈ v, hasL l m = false := by
  simp only [rightG, Bool.and_eq_true, countL_zero, List.all_eq_true, Bool.not_eq_true', decide_eq_true_eq, and_assoc, gt_iff_lt, List.length_pos_iff]

theorem rises_with : ∀ {l : List Int} {a : Int}, risesL a l = true → a < n → n ≤ 15 → hasL l n = false → risesL a (withL n l) = true
  | [], a, _, h0, h1, _ => by simp [withL, risesL]; omega
  | x :: l, a, h, h0, h1, hn => by
    simp only [risesL, Bool.and_eq_true, Bool.not_eq_true', decide_eq_false_iff_not] at h
    simp only [hasL, Bool.or_eq_false_iff, beq_eq_false_iff_ne, ne_eq] at hn
    unfold withL
    split
    · simp only [risesL, Bool.and_eq_true, Bool.not_eq_true', decide_eq_false_iff_not]
      exact ⟨by omega, by omega, h.2⟩
    · simp only [risesL, Bool.and_eq_true, Bool.not_eq_true', decide_eq_false_iff_not]
      exact ⟨h.1, rises_with h.2 (by omega) h1 hn.2⟩

theorem rises_weak : ∀ {l : List Int} {a b : Int}, risesL a l = true → b ≤ a → risesL b l = true
  | [], _, _, _, _ => rfl
  | x :: l, a, b, h, hb => by
    simp only [risesL, Bool.and_eq_true, Bool.not_eq_true', decide_eq_false_iff_not] at h ⊢
    exact ⟨by omega, h.2⟩

theorem rises_filter (p : Int → Bool) : ∀ {l : List Int} {a : Int}, risesL a l = true → risesL a (l.filter p) = true
  | [], _, _ => rfl
  | x :: l, a, h => by
    simp only [risesL, Bool.and_eq_true, Bool.not_eq_true', decide_eq_false_iff_not] at h
    have ih := rises_filter p h.2
    rw [List.filter_cons]
    split
    · simp only [risesL, Bool.and_eq_true, Bool.not_eq_true', decide_eq_false_iff_not]; exact ⟨h.1, ih⟩
    · exact rises_weak ih (by omega)

theorem has_with {m : Int} : hasL (withL n l) m = (m == n || hasL l m) := by
  have h : hasL (withL n l) m = true ↔ (m == n || hasL l m) = true := by
    rw [hasL_mem, (withL_perm n l).mem_iff, Bool.or_eq_true, hasL_mem]; simp
  cases h1 : hasL (withL n l) m <;> cases h2 : (m == n || hasL l m) <;> simp_all

theorem has_without {m : Int} : hasL (withoutL n l) m = (m != n && hasL l m) := by
  have h : hasL (withoutL n l) m = true ↔ (m != n && hasL l m) = true := by
    rw [hasL_mem, withoutL, List.mem_filter, Bool.and_eq_true, hasL_mem]
    exact ⟨fun h => ⟨h.2, h.1⟩, fun h => ⟨h.2, h.1⟩⟩
  cases h1 : hasL (withoutL n l) m <;> cases h2 : (m != n && hasL l m) <;> simp_all

theorem without_with : ∀ {l : List Int}, hasL l n = false → withoutL n (withL n l) = l
  | [], _ => by simp [withL, withoutL]
  | x :: l, h => by
    have h' := h
    simp only [hasL, Bool.or_eq_false_iff, beq_eq_false_iff_ne, ne_eq] at h
    unfold withL
    split
    · have : withoutL n (n :: x :: l) = withoutL n (x :: l) := by simp [withoutL]
      rw [this, without_not h']
    · have : withoutL n (x :: withL n l) = x :: withoutL n (withL n l) := by simp [withoutL, h.1]
      rw [this, without_with h.2]

theorem with_ne : withL n l ≠ [] := fun h => by
  have := (withL_perm n l).length_eq; rw [h] at this; simp at this
theorem with_len : (withL n l).length = l.length + 1 := by
  have := (withL_perm n l).length_eq; simpa using this

theorem right_add (h : rightG v l = true) (hv : hasL v n = false) (hl : hasL l n = false) (h0 : 1 ≤ n) (h1 : n ≤ 15) : rightG v (withL n l) = true := by
  obtain ⟨a, b, c, d⟩ := right_iff.1 h
  refine right_iff.2 ⟨a, rises_with b (by omega) h1 hl, c, fun m hm => ?_⟩
  rw [has_with, d m hm, Bool.or_false, beq_eq_false_iff_ne]
  intro e; subst e
  have := hasL_mem.2 hm; rw [hv] at this; cases this

theorem right_promote (h : rightG v l = true) (hl : hasL l n = true) (h0 : 1 ≤ n) (h1 : n ≤ 15) : rightG (withL n v) (withoutL n l) = true := by
  obtain ⟨a, b, c, d⟩ := right_iff.1 h
  refine right_iff.2 ⟨rises_with a (by omega) h1 (right_disj h hl), rises_filter _ b, with_ne, fun m hm => ?_⟩
  rw [has_without]
  have := hasL_mem.2 hm
  rw [has_with] at this
  cases hm2 : (m == n)
  · rw [hm2, Bool.false_or] at this
    rw [d m (hasL_mem.1 this), Bool.and_false]
  · simp [bne, hm2]

theorem right_remove (h : rightG v l = true) (hc : withoutL n v ≠ []) : rightG (withoutL n v) (withoutL n l) = true := by
  obtain ⟨a, b, c, d⟩ := right_iff.1 h
  refine right_iff.2 ⟨rises_filter _ a, rises_filter _ b, hc, fun m hm => ?_⟩
  rw [has_without, d m (List.mem_filter.1 hm).1, Bool.and_false]

/-- What a change that is done leaves. -/
structure Changed (v l : List Int) (n : Int) (a b : List Int) : Prop where
  was : rightG v l = true
  right : rightG a b = true
  how : a = v ∨ (a = withL n v) ∨ (a = withoutL n v ∧ hasL v n = true)

theorem chG_changed {kind : Int} {a b : List Int} (h : chG v l kind n = (a, b, 0)) : Changed v l n a b := by
  by_cases ok : ChOk v l kind n
  · rw [ok.eq] at h
    split at h
    · split at h
      · cases h
      · rename_i hc
        simp only [Bool.or_eq_true, not_or, Bool.not_eq_true] at hc
        cases h
        rw [without_not hc.1]
        exact ⟨ok.right, right_add ok.right hc.1 hc.2 ok.n0 ok.n1, .inl rfl⟩
    · split at h
      · split at h
        · cases h
        · rename_i hc
          simp only [Bool.not_eq_true', Bool.not_eq_false] at hc
          cases h
          exact ⟨ok.right, right_promote ok.right hc ok.n0 ok.n1, .inr (.inl rfl)⟩
      · split at h
        · cases h
        · rename_i hc
          cases h
          simp only [Bool.or_eq_true, Bool.and_eq_true, not_or, Bool.not_eq_true', not_and, Bool.not_eq_false, beq_iff_eq] at hc
          cases hv : hasL v n
          · rw [without_not hv]
            have := right_remove (n := n) ok.right (by rw [without_not hv]; exact (right_iff.1 ok.right).2.2.1)
            rw [without_not hv] at this
            exact ⟨ok.right, this, .inl rfl⟩
          · have hl := len_without (rises_nodup (right_rises ok.right)) hv
            have h1 := hc.2 hv
            have hp := right_pos ok.right
            refine ⟨ok.right, right_remove ok.right fun e => ?_, .inr (.inr ⟨rfl, hv⟩)⟩
            rw [e] at hl; simp at hl; omega
  · have : chG v l kind n = ([], [], 1) := by
      refine chG_arg ?_
      cases hr : rightG v l
      · exact .inl rfl
      · refine .inr ?_
        by_cases h1 : kind < 1
        · exact .inl h1
        · by_cases h2 : kind > 3
          · exact .inr (.inl h2)
          · by_cases h3 : n < 1
            · exact .inr (.inr (.inl h3))
            · by_cases h4 : n > 15
              · exact .inr (.inr (.inr h4))
              · exact absurd ⟨hr, by omega, by omega, by omega, by omega⟩ ok
    rw [this] at h; cases h

theorem chG_cases (v l : List Int) (kind n : Int) : chG v l kind n = ([], [], 1) ∨ chG v l kind n = ([], [], 7) ∨ ∃ a b, chG v l kind n = (a, b, 0) := by
  unfold chG
  split
  · exact .inl rfl
  split <;> split <;> first | exact .inr (.inl rfl) | exact .inr (.inr ⟨_, _, rfl⟩) | skip
  all_goals split
  all_goals first | exact .inr (.inl rfl) | exact .inr (.inr ⟨_, _, rfl⟩)

theorem chG_len (v l : List Int) (kind n : Int) : (chG v l kind n).1.length ≤ 1000 ∧ (chG v l kind n).2.1.length ≤ 1000 := by
  rcases chG_cases v l kind n with h | h | ⟨a, b, h⟩
  · rw [h]; simp
  · rw [h]; simp
  · have := chG_changed h
    rw [h]
    have h1 := rises_len15 (right_rises this.right)
    have h2 := rises_len15 (right_risesL this.right)
    simp only; omega

/-! ### Undo -/

theorem undo {a b : List Int} (h : chG v l 1 n = (a, b, 0)) :
    chG a b 3 n = (v, l, 0) ∧ ∃ c, chG a b 2 n = (c, l, 0) ∧ chG c l 3 n = (v, l, 0) := by
  have ok : ChOk v l 1 n := by
    by_cases hok : (!rightG v l || decide ((1 : Int) < 1) || decide ((1 : Int) > 3) || decide (n < 1) || decide (n > 15)) = true
    · unfold chG at h; rw [if_pos hok] at h; cases h
    · simp only [Bool.or_eq_true, not_or, Bool.not_eq_true', Bool.not_eq_false, decide_eq_true_eq] at hok
      exact ⟨hok.1.1.1.1, by omega, by omega, by omega, by omega⟩
  rw [ok.eq] at h
  simp only [beq_self_eq_true, if_true] at h
  split at h
  · cases h
  rename_i hc
  simp only [Bool.or_eq_true, not_or, Bool.not_eq_true] at hc
  obtain ⟨hv, hl⟩ := hc
  cases h
  rw [without_not hv]
  have r1 := right_add ok.right hv hl ok.n0 ok.n1
  have hw : hasL (withL n l) n = true := by rw [has_with]; simp
  have hwv : hasL (withL n v) n = true := by rw [has_with]; simp
  have r2 := right_promote r1 hw ok.n0 ok.n1
  rw [without_with hl] at r2
  refine ⟨?_, withL n v, ?_, ?_⟩
  · rw [ChOk.eq ⟨r1, by omega, by omega, ok.n0, ok.n1⟩]
    simp [show ((3 : Int) == 1) = false from rfl, show ((3 : Int) == 2) = false from rfl, hv, hw, without_not hv, without_with hl]
  · rw [ChOk.eq ⟨r1, by omega, by omega, ok.n0, ok.n1⟩]
    simp [show ((2 : Int) == 1) = false from rfl, hw, without_with hl]
  · rw [ChOk.eq ⟨r2, by omega, by omega, ok.n0, ok.n1⟩]
    have hp := right_pos ok.right
    have : ((withL n v).length == 1) = false := by rw [with_len]; simp; intro e; subst e; simp at hp
    simp [show ((3 : Int) == 1) = false from rfl, show ((3 : Int) == 2) = false from rfl, hl, hwv, this, without_not hl, without_with hv]

/-! ### Most of a group and most of that with one change meet -/

theorem count_and (p q : Int → Bool) : ∀ v : List Int, countL p v + countL q v ≤ v.length + countL (fun m => p m && q m) v
  | [] => by simp [countL]
  | m :: v => by
    have ih := count_and p q v
    unfold countL at *
    simp only [List.filter_cons, List.length_cons]
    cases hp : p m <;> cases hq : q m <;> simp <;> omega

theorem count_pos {p : Int → Bool} {v : List Int} (h : 0 < countL p v) : ∃ m ∈ v, p m = true := by
  unfold countL at h
  have : 0 < (v.filter p).length := by omega
  obtain ⟨m, hm⟩ := List.exists_mem_of_length_pos this
  exact ⟨m, List.mem_filter.1 hm⟩

theorem count_with (p : Int → Bool) : countL p (withL n v) = countL p v + if p n then 1 else 0 := by
  rw [countL_perm p (withL_perm n v)]
  unfold countL
  rw [List.filter_cons]
  split <;> simp

theorem count_without (p : Int → Bool) : ∀ {v : List Int}, v.Nodup → countL p v ≤ countL p (withoutL n v) + 1
  | [], _ => by simp [countL, withoutL]
  | x :: v, hd => by
    obtain ⟨h1, h2⟩ := List.nodup_cons.1 hd
    by_cases hx : x = n
    · subst hx
      have hv : hasL v x = false := by
        cases hv : hasL v x
        · rfl
        · exact absurd (hasL_mem.1 hv) h1
      have : withoutL x (x :: v) = withoutL x v := by simp [withoutL]
      rw [this, without_not hv]
      unfold countL
      rw [List.filter_cons]
      split <;> simp
      omega
    · have : withoutL n (x :: v) = x :: withoutL n v := by simp [withoutL, hx]
      rw [this]
      have ih := count_without p h2
      unfold countL at *
      rw [List.filter_cons, List.filter_cons]
      split <;> simp <;> omega

theorem meets {a b x0 x1 : List Int} (h : Changed v l n a b) (w0 : winsG v l x0 = true) (w1 : winsG a b x1 = true) : ∃ m ∈ v, hasL x0 m = true ∧ hasL x1 m = true ∧ hasL a m = true := by
  unfold winsG needG at w0 w1
  simp only [Bool.and_eq_true, decide_eq_true_eq, h.was, h.right, if_true, true_and] at w0 w1
  have nd := rises_nodup (right_rises h.was)
  rcases h.how with rfl | rfl | ⟨rfl, hv⟩
  · have hc := count_and (hasL x0) (hasL x1) a
    obtain ⟨m, hm, hp⟩ := count_pos (p := fun m => hasL x0 m && hasL x1 m) (v := a) (by omega)
    simp only [Bool.and_eq_true] at hp
    exact ⟨m, hm, hp.1, hp.2, hasL_mem.2 hm⟩
  · have hc := count_and (hasL x0) (hasL x1) v
    rw [with_len, count_with] at w1
    obtain ⟨m, hm, hp⟩ := count_pos (p := fun m => hasL x0 m && hasL x1 m) (v := v) (by split at w1 <;> omega)
    simp only [Bool.and_eq_true] at hp
    exact ⟨m, hm, hp.1, hp.2, by rw [has_with, hasL_mem.2 hm, Bool.or_true]⟩
  · have hc := count_and (hasL x0) (hasL x1) (withoutL n v)
    have h1 := count_without (n := n) (hasL x0) nd
    have h2 := len_without nd hv
    obtain ⟨m, hm, hp⟩ := count_pos (p := fun m => hasL x0 m && hasL x1 m) (v := withoutL n v) (by omega)
    simp only [Bool.and_eq_true] at hp
    exact ⟨m, (List.mem_filter.1 hm).1, hp.1, hp.2, hasL_mem.2 hm⟩

end Go.Proofs.Ytjbpncdealpmhaa
