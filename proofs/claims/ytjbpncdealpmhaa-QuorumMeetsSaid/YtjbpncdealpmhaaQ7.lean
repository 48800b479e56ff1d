/- QuorumMiddles: the reference's middle, and the law. Condition: slices of at most 2^47 elements. -/
import Derived.Test.YtjbpncdealpmhaaQ6
namespace Go.Proofs.Ytjbpncdealpmhaa
open Go Go.VC

variable {R : Cx} {Hs : List HP} {w : World} {s t u : Sl} {xs v l x A : List Int}

theorem refMiddle_spec (hw : Sat R Hs w) (hv : RoI R s v) (hl : RoI R t l) (hA : A.length = 16) :
    Gets Try.prog 21 #[.agg #[.slice s.a s.len s.cap, .slice t.a t.len t.cap], .agg (A.map (Value.int .i64)).toArray] w fun r w' => r = .int .i64 (midL v l A) ∧ Sat R Hs w' := by
  have hlen := RoI.len hv
  have hbd := RoI.bound hv
  apply call21
  refine new_rule hw fun b w hw => new_rule hw fun c w hw => ?_
  have hw : Sat R (pts c (.cells (A.map (Value.int .i64)).toArray 30 (0, 0)) :: pts b (.cells [.slice s.a s.len s.cap, .slice t.a t.len t.cap].toArray 24 (0, 0)) :: Hs) w := hw
  refine ⟨s, t, At.own (eqS hw) (by exact ⟨rfl, rfl, trivial⟩), ?_⟩
  refine (refRight_spec hw hv hl).use ?_
  rintro _ w ⟨rfl, hw⟩
  refine ⟨_, rfl, Br.mk (fun h => ?_) (fun h => ?_)⟩
  · simp only [Bool.not_eq_true'] at h
    exact ⟨by simp [midL, h], hw.drop.drop⟩
  · simp only [Bool.not_eq_false'] at h
    have h15 := rises_len15 (right_rises h)
    have hneed : needG v l = ((v.map (pick A)).length / 2 + 1 : Nat) := by unfold needG; rw [if_pos h, List.length_map]; omega
    refine ⟨fun best found i w => ∃ k : Nat, i = k ∧ k ≤ v.length ∧ Best (v.map (pick A)) ((v.take k).map (pick A)) best found ∧ Sat R (pts c (.cells (A.map (Value.int .i64)).toArray 30 (0, 0)) :: pts b (.cells [.slice s.a s.len s.cap, .slice t.a t.len t.cap].toArray 24 (0, 0)) :: Hs) w,
      fun _ _ i _ => v.length - i.toNat, ⟨0, rfl, Nat.zero_le _, ⟨fun h => (by cases h), fun n hn => (by simp at hn)⟩, hw⟩, ?_⟩
    rintro z best found _ w ⟨k, rfl, hk, hbest, hw⟩
    refine ⟨s, At.own (eqS hw) (by exact ⟨rfl, trivial⟩), Br.mk (fun h1 => ?_) (fun h1 => ?_)⟩ <;> simp only [decide_eq_true_eq, decide_eq_false_iff_not] at h1
    · have hk' : k < v.length := by omega
      obtain ⟨n0, n1⟩ := right_at h hk'
      obtain ⟨hn, hp⟩ := pick_at hA n0 n1
      have e : (v.take (k + 1)).map (pick A) = (v.take k).map (pick A) ++ [A[(v[k]).toNat]] := by
        rw [List.take_succ_eq_append_getElem hk', hp, List.map_append]; rfl
      refine ⟨s, At.own (eqS hw) (by exact ⟨rfl, trivial⟩), hv.idx (eqS hw) hk' (Rng.mk (by omega) (by omega) ⟨_, At.ints (eqS hw) hn, ?_⟩)⟩
      refine ⟨fun c' j w => ∃ i : Nat, j = i ∧ i ≤ v.length ∧ c' = countL (fun x => decide (x ≥ A[(v[k]).toNat])) ((v.map (pick A)).take i) ∧ Sat R (pts c (.cells (A.map (Value.int .i64)).toArray 30 (0, 0)) :: pts b (.cells [.slice s.a s.len s.cap, .slice t.a t.len t.cap].toArray 24 (0, 0)) :: Hs) w,
        fun _ j _ => v.length - j.toNat, ⟨0, rfl, Nat.zero_le _, rfl, hw⟩, ?_⟩
      rintro z _ _ w ⟨i, rfl, hi, rfl, hw⟩
      refine ⟨s, At.own (eqS hw) (by exact ⟨rfl, trivial⟩), Br.mk (fun h2 => ?_) (fun h2 => ?_)⟩ <;> simp only [decide_eq_true_eq, decide_eq_false_iff_not] at h2
      · have hi' : i < v.length := by omega
        have hm : i < (v.map (pick A)).length := by simpa using hi'
        obtain ⟨m0, m1⟩ := right_at h hi'
        obtain ⟨hm2, hp2⟩ := pick_at hA m0 m1
        have hs := countL_snoc (fun x => decide (x ≥ A[(v[k]).toNat])) hm
        have e2 : (v.map (pick A))[i] = A[(v[i]).toNat] := by rw [hp2]; simp
        rw [e2] at hs
        have hc := countL_le (fun x => decide (x ≥ A[(v[k]).toNat])) ((v.map (pick A)).take i)
        have hc0 := countL_nn (fun x => decide (x ≥ A[(v[k]).toNat])) ((v.map (pick A)).take i)
        rw [List.length_take] at hc
        have hc2 : countL (fun x => decide (x ≥ A[(v[k]).toNat])) ((v.map (pick A)).take i) ≤ 15 := by omega
        refine ⟨s, At.own (eqS hw) (by exact ⟨rfl, trivial⟩), hv.idx (eqS hw) hi' (Rng.mk (by omega) (by omega) ⟨_, At.ints (eqS hw) hm2, Br.mk (fun h3 => ?_) (fun h3 => ?_)⟩)⟩
        · rw [h3] at hs
          rw [wrap64 (by omega) (by omega), wrap64 (by omega) (by omega)]
          exact ⟨⟨i + 1, by omega, by omega, by rw [hs]; rfl, hw⟩, by dsimp only; omega⟩
        · rw [h3] at hs
          rw [wrap64 (x := (i : Int) + 1) (by omega) (by omega)]
          exact ⟨⟨i + 1, by omega, by omega, by rw [hs]; simp, hw⟩, by dsimp only; omega⟩
      · have : i = v.length := by omega
        subst this
        rw [List.take_of_length_le (by simp)]
        refine ⟨s, t, At.own (eqS hw) (by exact ⟨rfl, rfl, trivial⟩), ?_⟩
        refine (refNeed_spec hw hv hl).use ?_
        rintro _ w ⟨rfl, hw⟩
        have hmem : A[(v[k]).toNat] ∈ v.map (pick A) := by rw [hp]; exact List.mem_map_of_mem (List.getElem_mem hk')
        refine ⟨_, rfl, ?_⟩
        rw [wrap64 (x := (k : Int) + 1) (by omega) (by omega), hneed]
        refine Br.mk (fun h3 => Br.mk (fun h4 => ?_) (fun h4 => Br.mk (fun h5 => ?_) (fun h5 => ?_))) (fun h3 => ?_)
        · simp only [decide_eq_true_eq] at h3
          simp only [Bool.not_eq_true'] at h4
          exact ⟨⟨k + 1, by omega, by omega, by rw [e]; exact hbest.put hmem (.inl h4) h3, hw⟩, by dsimp only; omega⟩
        · simp only [decide_eq_true_eq] at h3 h5
          exact ⟨⟨k + 1, by omega, by omega, by rw [e]; exact hbest.put hmem (.inr h5) h3, hw⟩, by dsimp only; omega⟩
        · simp only [decide_eq_false_iff_not, Bool.not_eq_false'] at h4 h5
          subst h4
          exact ⟨⟨k + 1, by omega, by omega, by rw [e]; exact hbest.keep (by omega), hw⟩, by dsimp only; omega⟩
        · simp only [decide_eq_false_iff_not] at h3
          exact ⟨⟨k + 1, by omega, by omega, by rw [e]; exact hbest.skip h3, hw⟩, by dsimp only; omega⟩
    · have : k = v.length := by omega
      subst this
      rw [List.take_length] at hbest
      exact ⟨by rw [hbest.done (mid_is h)], hw.drop.drop⟩

theorem few0_spec (hw : Sat R Hs w) :
    Gets Try.prog 11 #[.agg #[.slice s.a s.len s.cap, .slice t.a t.len t.cap], .slice none 0 0] w fun r w' => (∃ b, r = .bool b) ∧ Sat R Hs w' :=
  few_spec (m := ⟨none, 0, 0⟩) (ms := []) hw ⟨rfl, by simp, fun h => absurd rfl h⟩

theorem middles_spec (hw : Sat R Hs w) (hv : RoI R s v) (hl : RoI R t l) (hA : A.length = 16) :
    Gets Try.prog 4 #[.agg #[.slice s.a s.len s.cap, .slice t.a t.len t.cap], .agg (A.map (Value.int .i64)).toArray] w fun r w' => r = .bool true ∧ Sat R Hs w' := by
  apply call4
  refine new_rule hw fun b w hw => new_rule hw fun c w hw => ?_
  have hw : Sat R (pts c (.cells (A.map (Value.int .i64)).toArray 30 (0, 0)) :: pts b (.cells [.slice s.a s.len s.cap, .slice t.a t.len t.cap].toArray 24 (0, 0)) :: Hs) w := hw
  refine (awake_spec hw).use ?_
  rintro _ w ⟨rfl, hw⟩
  refine ⟨_, rfl, s, t, At.own (eqS hw) (by exact ⟨rfl, rfl, trivial⟩), ?_⟩
  refine (few0_spec hw).use ?_
  rintro _ w ⟨⟨ok, rfl⟩, hw⟩
  refine ⟨_, rfl, Br.f rfl (Br.mk (fun _ => ⟨rfl, hw.drop.drop⟩) (fun _ => ?_))⟩
  refine drw_rule hw fun w hw => ?_
  refine ⟨s, t, At.own selfS (by exact ⟨rfl, rfl, trivial⟩), A.map (Value.int .i64), by simp [hA], At.own selfS (Pre.refl _), s, t, At.own selfS (by exact ⟨rfl, rfl, trivial⟩), A.map (Value.int .i64), by simp [hA], At.own selfS (Pre.refl _), ?_⟩
  refine (middle_spec hw hv hl hA).use ?_
  rintro _ w ⟨rfl, hw⟩
  refine ⟨_, rfl, hw, (refMiddle_spec hw hv hl hA).use ?_⟩
  rintro _ w ⟨rfl, hw⟩
  exact ⟨_, rfl, hw, by simp, hw.drop.drop⟩

end Go.Proofs.Ytjbpncdealpmhaa
