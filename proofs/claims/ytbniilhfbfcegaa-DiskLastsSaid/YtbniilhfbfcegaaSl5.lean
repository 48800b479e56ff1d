/- SL, part 5: elements of a slice of one's own, loads, stores, clear; stores of structs. No condition. -/
import Derived.Test.YtbniilhfbfcegaaSl4
import Derived.Lib.SliceRun
namespace Go.VC

variable {P : Program} {R : Cx} {Hs Rest : List HP} {w : World} {s : Sl} {T : TypeId}

theorem Own.addr {xs : List Value} (hw : Sat R (Own s T xs :: Hs) w) {k : Nat} (hk : k < xs.length) : ∃ b, s.a = some ⟨b, 0, none⟩ ∧
    ∀ {S : World → Prop} {Hs'}, (∀ w, S w → Sat R (Own s T xs :: Hs') w) → At S (Addr.add ⟨b, 0, none⟩ k) [xs[k]] := by
  rcases Own.cases hw with ⟨_, rfl, _⟩ | ⟨b, rest, fr, rfl, _, _⟩
  · simp at hk
  · refine ⟨b, rfl, fun hS w hs i v hv => ?_⟩
    have hi : i = 0 := by
      cases i with
      | zero => rfl
      | succ i => simp at hv
    subst hi
    simp only [List.getElem?_cons_zero, Option.some.injEq] at hv
    subst hv
    rcases Own.cases (hS w hs) with ⟨h0, _, _⟩ | ⟨b', rest', fr', he, _, h⟩
    · cases h0
    · simp only [Sl.mk.injEq, Option.some.injEq, Addr.mk.injEq, and_true] at he
      obtain ⟨rfl, _⟩ := he
      rw [add_off, add_off, cell_of h.at]
      simp [List.getElem?_append_left hk]

theorem Own.cap {xs : List Value} (hw : Sat R (Own s T xs :: Hs) w) : s.len ≤ s.cap := by
  rcases Own.cases hw with ⟨rfl, _, _⟩ | ⟨b, rest, fr, rfl, _, _⟩
  · exact Nat.le_refl _
  · simp

/-- An element of a slice of ints that one owns, as the formulas ask for it. -/
theorem Own.idx {kd : IntKind} {xs : List Int} {S : World → Prop} {Hs' : List HP} (hw : Sat R (Own s T (xs.map (Value.int kd)) :: Hs) w) (hS : ∀ w, S w → Sat R (Own s T (xs.map (Value.int kd)) :: Hs') w) {k : Nat} (hk : k < xs.length) {F : Int → Prop} (h : F xs[k]) :
    Rng (k : Int) s.len (NilP s.a fun a => ∃ t : Int, (At S (a.add (k : Int).toNat) [.int kd t]) ∧ F t) := by
  obtain ⟨b, ha, hat⟩ := Own.addr hw (k := k) (by simpa using hk)
  have hl := Own.len hw
  rw [List.length_map] at hl
  refine Rng.mk (by omega) (by omega) (NilP.mk ha ⟨xs[k], ?_, h⟩)
  have := hat hS
  simpa using this

/-- A store into it. -/
theorem Own.store {t : TypeId} {kd : IntKind} {xs : List Int} (hsz : (P.info? t).map (·.size) = some 1) (hw : Sat R (Own s T (xs.map (Value.int kd)) :: Hs) w) {k : Nat} (hk : k < xs.length) {x : Int} {K : World → Prop}
    (h : ∀ w', Sat R (Own s T ((xs.set k x).map (Value.int kd)) :: Hs) w' → K w') :
    Rng (k : Int) s.len (NilP s.a fun a => ∃ w', (Instr.storeAt t (.pointer (some (Addr.add a (k : Int).toNat))) (.int kd x)).run P w = .ok () w' ∧ K w') := by
  have hl := Own.len hw
  rw [List.length_map] at hl
  rcases Own.cases hw with ⟨_, h0, _⟩ | ⟨b, rest, fr, rfl, hfr, hp⟩
  · simp at h0; subst h0; simp at hk
  · refine Rng.mk (by omega) (by simp only at hl ⊢; omega) (NilP.mk rfl ?_)
    rw [add_off]
    refine store_rule hp (by rw [hsz]; rfl) rfl (by simp [Value.cells]; omega) fun w' h2 => h w' ?_
    have e : putL (xs.map (Value.int kd) ++ rest) (0 + (k : Int).toNat) (Value.int kd x).cells.toList = (xs.set k x).map (Value.int kd) ++ rest := by
      simp only [putL, Value.cells, Nat.zero_add, Int.toNat_natCast]
      rw [List.set_append_left _ _ (by simpa using hk), List.map_set]
    rw [e] at h2
    have h3 := Own.of_pts h2 (hfr.le (by simp))
    simpa using h3

/-- 'clear(s[k:])', and what is left of it: 's[:k]'. -/
theorem Own.clearTail {t ty : TypeId} {kd : IntKind} {xs : List Int} (ht : P.underlying t = some (.slice T)) (hv : ∀ w, (zeroValue T).run P w = .ok (.int kd 0) w)
    (hw : Sat R (Own s T (xs.map (Value.int kd)) :: Hs) w) {k : Nat} (hk : k ≤ xs.length) {K : World → Prop}
    (h : ∀ w', Sat R (Own ⟨s.a, k, s.cap⟩ T ((xs.take k).map (Value.int kd)) :: Hs) w' → K w') :
    ∃ w', (Builtin.clear_ #[t] ty #[.slice (cutA s.a k s.cap 1) (s.len - k) (s.cap - k)]).run P w = .ok (.tuple #[]) w' ∧ K w' := by
  have hl := Own.len hw
  rw [List.length_map] at hl
  rcases Own.cases hw with ⟨rfl, h0, hn⟩ | ⟨b, rest, fr, rfl, hfr, hp⟩
  · simp at h0; subst h0
    obtain rfl : k = 0 := by simpa using hk
    refine ⟨w, ?_, h w (by simpa using Own.nil hn)⟩
    simp [cutA, Builtin.clear_, run_underlying ht]
  · simp only at hl
    simp only [List.length_map] at hl ⊢
    by_cases hk2 : k = xs.length
    · subst hk2
      refine ⟨w, ?_, h w ?_⟩
      · cases hc : cutA (some ⟨b, 0, none⟩) xs.length (xs.length + rest.length) 1 <;> simp [Builtin.clear_, run_underlying ht, hc]
      · rw [List.take_length]; simpa using Own.of_pts hp
    · have hne : ¬ (xs.map (Value.int kd) ++ rest).length = k := by simp; omega
      have ha : cutA (some ⟨b, 0, none⟩) k (xs.map (Value.int kd) ++ rest).length 1 = some ⟨b, k, none⟩ := by
        simp only [cutA, if_neg hne, Option.map_some, add_off]; simp
      rw [ha]
      refine ⟨_, Lib.run_clear_slice w t T ty (.int kd 0) ht hv rfl rfl b k (xs.length - k) _ (by omega) (fun j hj => by rw [cell_of hp.at]; simp; omega) (fun j hj => frozen_no hp.at hfr (by simp; omega)), h _ ?_⟩
      have h2 := setCells_sat (List.replicate (xs.length - k) (Value.int kd 0)) _ k w hp
      rw [putL_eq _ _ _ (by simp; omega)] at h2
      have e : (xs.map (Value.int kd) ++ rest).take k ++ List.replicate (xs.length - k) (Value.int kd 0) ++ (xs.map (Value.int kd) ++ rest).drop (k + (List.replicate (xs.length - k) (Value.int kd 0)).length) = (xs.take k).map (Value.int kd) ++ (List.replicate (xs.length - k) (Value.int kd 0) ++ rest) := by
        rw [List.length_replicate, List.take_append_of_le_length (by simpa using hk), show k + (xs.length - k) = (xs.map (Value.int kd)).length by simp; omega, List.drop_left, List.map_take, List.append_assoc]
      rw [e] at h2
      have h3 := Own.of_pts h2 (hfr.le (by simp; omega))
      have e2 : (⟨some ⟨b, 0, none⟩, ((xs.take k).map (Value.int kd)).length, ((xs.take k).map (Value.int kd) ++ (List.replicate (xs.length - k) (Value.int kd 0) ++ rest)).length⟩ : Sl) = ⟨some ⟨b, 0, none⟩, k, (xs.map (Value.int kd) ++ rest).length⟩ := by
        simp only [List.length_map, List.length_append, List.length_take, List.length_replicate, Sl.mk.injEq, true_and]
        omega
      rw [e2] at h3
      exact h3

end Go.VC
