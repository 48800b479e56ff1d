/- QuorumCounts: the reference's functions, and the law's walk: it answers true. Condition: slices of at most 2^47 elements. -/
import Derived.Test.YtjbpncdealpmhaaQ2
namespace Go.Proofs.Ytjbpncdealpmhaa
open Go Go.VC

variable {R : Cx} {Hs : List HP} {w : World} {s t u : Sl} {xs v l x : List Int}

theorem countL_snoc (p : Int → Bool) {xs : List Int} {k : Nat} (hk : k < xs.length) : countL p (xs.take (k + 1)) = countL p (xs.take k) + if p xs[k] then 1 else 0 := by
  unfold countL
  rw [List.take_succ_eq_append_getElem hk, List.filter_append]
  cases hp : p xs[k] <;> simp [hp]

theorem countL_zero (p : Int → Bool) : ∀ xs : List Int, (countL p xs == 0) = xs.all (fun n => !p n)
  | [] => by simp [countL]
  | n :: xs => by
    have := countL_zero p xs
    unfold countL at *
    cases hp : p n
    · rw [List.filter_cons_of_neg (by simp [hp])]; simp [hp] at *; exact this
    · rw [List.filter_cons_of_pos (by simp [hp])]; simp [hp]; omega

theorem refRight_spec (hw : Sat R Hs w) (hv : RoI R s v) (hl : RoI R t l) :
    Gets Try.prog 13 #[.agg #[.slice s.a s.len s.cap, .slice t.a t.len t.cap]] w fun r w' => r = .bool (rightG v l) ∧ Sat R Hs w' := by
  have hlen := RoI.len hv
  have hbd := RoI.bound hv
  apply call13
  refine new_rule hw fun b w hw => ?_
  refine ⟨s, At.own (eqS hw) (by exact ⟨rfl, trivial⟩), ?_⟩
  refine (refRises_spec hw hv).use ?_
  rintro _ w ⟨rfl, hw⟩
  refine ⟨_, rfl, t, At.own (eqS hw) (by exact ⟨rfl, trivial⟩), ?_⟩
  refine (refRises_spec hw hl).use ?_
  rintro _ w ⟨rfl, hw⟩
  refine ⟨_, rfl, ?_⟩
  refine ⟨fun w => risesL 0 v = true ∧ risesL 0 l = true ∧ v.length > 0 ∧ Sat R (pts b (.cells [.slice s.a s.len s.cap, .slice t.a t.len t.cap].toArray 24 (0, 0)) :: Hs) w, ?_, ?_⟩
  · refine Br.mk (fun h1 => ?_) (fun h1 => Br.mk (fun h2 => ?_) (fun h2 => ?_))
    · simp at h1; exact ⟨by simp [rightG, h1], hw.drop⟩
    · simp at h2; exact ⟨by simp [rightG, h2], hw.drop⟩
    · simp at h1 h2
      refine ⟨s, At.own (eqS hw) (by exact ⟨rfl, trivial⟩), Br.mk (fun h3 => ?_) (fun h3 => ?_)⟩ <;> simp only [beq_iff_eq, beq_eq_false_iff_ne, ne_eq] at h3
      · refine ⟨?_, hw.drop⟩
        have h3' : ¬ v.length > 0 := by omega
        simp [rightG, h3']
      · exact ⟨h1, h2, by omega, hw⟩
  · rintro z w ⟨h1, h2, h3, hw⟩
    have hr : rightG v l = v.all (fun n => !hasL l n) := by
      rw [← countL_zero]; simp [rightG, h1, h2, h3]
    refine ⟨fun i w => ∃ k : Nat, i = k ∧ k ≤ v.length ∧ rightG v l = (v.drop k).all (fun n => !hasL l n) ∧ Sat R (pts b (.cells [.slice s.a s.len s.cap, .slice t.a t.len t.cap].toArray 24 (0, 0)) :: Hs) w, fun i _ => v.length - i.toNat,
      ⟨0, rfl, Nat.zero_le _, hr, hw⟩, ?_⟩
    rintro z _ w ⟨k, rfl, hk, hr, hw⟩
    refine ⟨s, At.own (eqS hw) (by exact ⟨rfl, trivial⟩), Br.mk (fun h => ?_) (fun h => ?_)⟩ <;> simp only [decide_eq_true_eq, decide_eq_false_iff_not] at h
    · have hk' : k < v.length := by omega
      rw [drop_get hk'] at hr
      refine drw_rule hw fun w hw => ?_
      refine ⟨t, At.own selfS (by exact ⟨rfl, trivial⟩), s, At.own selfS (by exact ⟨rfl, trivial⟩), hv.idx selfS hk' ?_⟩
      refine (has_spec _ hw hl).use ?_
      rintro _ w ⟨rfl, hw⟩
      refine ⟨_, rfl, hw, Br.mk (fun h4 => ?_) (fun h4 => ?_)⟩
      · exact ⟨by rw [hr, List.all_cons, h4]; rfl, hw.drop⟩
      · rw [wrap64 (by omega) (by omega)]
        refine ⟨⟨k + 1, by omega, by omega, ?_, hw⟩, by dsimp only; omega⟩
        rw [hr, List.all_cons, h4]; rfl
    · have : k = v.length := by omega
      subst this
      exact ⟨by rw [hr]; simp, hw.drop⟩

theorem refNeed_spec (hw : Sat R Hs w) (hv : RoI R s v) (hl : RoI R t l) :
    Gets Try.prog 15 #[.agg #[.slice s.a s.len s.cap, .slice t.a t.len t.cap]] w fun r w' => r = .int .i64 (needG v l) ∧ Sat R Hs w' := by
  apply call15
  refine new_rule hw fun b w hw => ?_
  refine ⟨s, t, At.own (eqS hw) (by exact ⟨rfl, rfl, trivial⟩), ?_⟩
  refine (refRight_spec hw hv hl).use ?_
  rintro _ w ⟨rfl, hw⟩
  have h1 := RoI.len hv
  have h2 := RoI.bound hv
  refine ⟨_, rfl, Br.mk (fun h => ?_) (fun h => ?_)⟩
  · exact ⟨by simp at h; simp [needG, h], hw.drop⟩
  · refine ⟨s, At.own (eqS hw) (by exact ⟨rfl, trivial⟩), ?_, hw.drop⟩
    simp only [Bool.not_eq_false'] at h
    have e : ((s.len : Int).tdiv 2) = (v.length : Int) / 2 := by rw [h1, Int.tdiv_eq_ediv_of_nonneg (by omega)]
    rw [e, wrap64 (x := (v.length : Int) / 2) (by omega) (by omega), wrap64 (by omega) (by omega)]
    simp [needG, h]

theorem refCount_spec (hw : Sat R Hs w) (hv : RoI R s v) (hx : RoI R u x) :
    Gets Try.prog 30 #[.agg #[.slice s.a s.len s.cap, .slice t.a t.len t.cap], .slice u.a u.len u.cap] w fun r w' => r = .int .i64 (countL (hasL x) v) ∧ Sat R Hs w' := by
  have hlen := RoI.len hv
  have hbd := RoI.bound hv
  apply call30
  refine new_rule hw fun b w hw => ?_
  refine ⟨fun c i w => ∃ k : Nat, i = k ∧ k ≤ v.length ∧ c = countL (hasL x) (v.take k) ∧ Sat R (pts b (.cells [.slice s.a s.len s.cap, .slice t.a t.len t.cap].toArray 24 (0, 0)) :: Hs) w, fun _ i _ => v.length - i.toNat, ⟨0, rfl, Nat.zero_le _, rfl, hw⟩, ?_⟩
  rintro z _ _ w ⟨k, rfl, hk, rfl, hw⟩
  refine ⟨s, At.own (eqS hw) (by exact ⟨rfl, trivial⟩), Br.mk (fun h => ?_) (fun h => ?_)⟩ <;> simp only [decide_eq_true_eq, decide_eq_false_iff_not] at h
  · have hk' : k < v.length := by omega
    refine ⟨s, At.own (eqS hw) (by exact ⟨rfl, trivial⟩), hv.idx (eqS hw) hk' ?_⟩
    refine (has_spec _ hw hx).use ?_
    rintro _ w ⟨rfl, hw⟩
    have hc := countL_le (hasL x) (v.take k)
    have hc0 := countL_nn (hasL x) (v.take k)
    have ht := countL_snoc (hasL x) hk'
    simp at hc
    refine ⟨_, rfl, Br.mk (fun h1 => ?_) (fun h1 => ?_)⟩
    · rw [wrap64 (by omega) (by omega), wrap64 (by omega) (by omega)]
      exact ⟨⟨k + 1, by omega, by omega, by rw [ht, h1]; rfl, hw⟩, by dsimp only; omega⟩
    · rw [wrap64 (x := (k : Int) + 1) (by omega) (by omega)]
      exact ⟨⟨k + 1, by omega, by omega, by rw [ht, h1]; simp, hw⟩, by dsimp only; omega⟩
  · have : k = v.length := by omega
    subst this
    exact ⟨by simp, hw.drop⟩

theorem refWins_spec (hw : Sat R Hs w) (hv : RoI R s v) (hl : RoI R t l) (hx : RoI R u x) :
    Gets Try.prog 17 #[.agg #[.slice s.a s.len s.cap, .slice t.a t.len t.cap], .slice u.a u.len u.cap] w fun r w' => r = .bool (winsG v l x) ∧ Sat R Hs w' := by
  apply call17
  refine new_rule hw fun b w hw => ?_
  refine ⟨s, t, At.own (eqS hw) (by exact ⟨rfl, rfl, trivial⟩), ?_⟩
  refine (refRight_spec hw hv hl).use ?_
  rintro _ w ⟨rfl, hw⟩
  refine ⟨_, rfl, drw_rule hw fun w hw => Br.mk (fun h1 => ?_) (fun h1 => ?_)⟩
  · refine ⟨s, t, At.own selfS (by exact ⟨rfl, rfl, trivial⟩), s, t, At.own selfS (by exact ⟨rfl, rfl, trivial⟩), ?_⟩
    refine (refCount_spec hw hv hx).use ?_
    rintro _ w ⟨rfl, hw⟩
    refine ⟨_, rfl, hw, (refNeed_spec hw hv hl).use ?_⟩
    rintro _ w ⟨rfl, hw⟩
    exact ⟨_, rfl, hw, by simp [winsG, h1], hw.drop⟩
  · exact ⟨by simp [winsG, h1], hw.drop⟩

theorem refLost_spec (hw : Sat R Hs w) (hv : RoI R s v) (hl : RoI R t l) (hx : RoI R u x) :
    Gets Try.prog 19 #[.agg #[.slice s.a s.len s.cap, .slice t.a t.len t.cap], .slice u.a u.len u.cap] w fun r w' => r = .bool (lostG v l x) ∧ Sat R Hs w' := by
  apply call19
  refine new_rule hw fun b w hw => ?_
  refine ⟨s, t, At.own (eqS hw) (by exact ⟨rfl, rfl, trivial⟩), ?_⟩
  refine (refRight_spec hw hv hl).use ?_
  rintro _ w ⟨rfl, hw⟩
  refine ⟨_, rfl, drw_rule hw fun w hw => Br.mk (fun h1 => ?_) (fun h1 => ?_)⟩
  · refine ⟨s, At.own selfS (by exact ⟨rfl, trivial⟩), s, t, At.own selfS (by exact ⟨rfl, rfl, trivial⟩), s, t, At.own selfS (by exact ⟨rfl, rfl, trivial⟩), ?_⟩
    refine (refCount_spec hw hv hx).use ?_
    rintro _ w ⟨rfl, hw⟩
    refine ⟨_, rfl, hw, (refNeed_spec hw hv hl).use ?_⟩
    rintro _ w ⟨rfl, hw⟩
    refine ⟨_, rfl, hw, ?_, hw.drop⟩
    have h2 := RoI.len hv
    have h3 := RoI.bound hv
    have h4 := countL_le (hasL x) v
    have h5 := countL_nn (hasL x) v
    rw [wrap64 (by omega) (by omega), h2]
    simp [lostG, h1]
  · exact ⟨by simp [lostG, h1], hw.drop⟩

/-! ### The law -/

theorem awake_spec (hw : Sat R Hs w) : Gets Try.prog 10 #[] w fun r w' => r = .bool true ∧ Sat R Hs w' := by
  apply call10
  refine new_rule hw fun b w hw => ?_
  obtain ⟨hb, hw⟩ := Sat.lend.1 hw
  have hv : RoI (R.add (Heap.one b (.cells [.int .i64 1, .int .i64 2, .int .i64 3].toArray 3 (0, 0)))) ⟨some ⟨b, 0, none⟩, 3, 3⟩ [1, 2, 3] :=
    ⟨rfl, by simp, fun _ => ⟨b, 0, _, 3, (0, 0), rfl, Cx.lent hb, fun i v h => by simpa using h⟩⟩
  have hl : RoI (R.add (Heap.one b (.cells [.int .i64 1, .int .i64 2, .int .i64 3].toArray 3 (0, 0)))) ⟨none, 0, 0⟩ [] := ⟨rfl, by simp, fun h => absurd rfl h⟩
  refine (need_spec hw hv hl).use ?_
  rintro _ w ⟨rfl, hw⟩
  exact ⟨_, rfl, congrArg Value.bool (by decide), (Sat.lend.2 ⟨hb, hw⟩).drop⟩


theorem few_spec {m : Sl} {ms : List Sl} (hw : Sat R Hs w) (hm : Ro R m (ms.map Sl.v)) :
    Gets Try.prog 11 #[.agg #[.slice s.a s.len s.cap, .slice t.a t.len t.cap], .slice m.a m.len m.cap] w fun r w' => (∃ b, r = .bool b) ∧ Sat R Hs w' := by
  have hl : m.len = ms.length := by have := hm.len; simpa using this
  have hb : ms.length ≤ 9223372036854775807 := by have := hm.bound; simpa using this
  apply call11
  refine new_rule hw fun b w hw => ?_
  refine ⟨fun i w => ∃ k : Nat, i = k ∧ k ≤ ms.length ∧ Sat R (pts b (.cells [.slice s.a s.len s.cap, .slice t.a t.len t.cap].toArray 24 (0, 0)) :: Hs) w, fun i _ => ms.length - i.toNat, ⟨0, rfl, Nat.zero_le _, hw⟩, ?_⟩
  rintro z _ w ⟨k, rfl, hk, hw⟩
  refine Br.mk (fun h => ?_) (fun h => ?_) <;> simp only [decide_eq_true_eq, decide_eq_false_iff_not] at h
  · have hk' : k < ms.length := by omega
    refine hm.idxS (eqS hw) hk' ?_
    refine Br.mk (fun h1 => ?_) (fun h1 => ?_)
    · exact ⟨⟨_, rfl⟩, hw.drop⟩
    · rw [wrap64 (by omega) (by omega)]
      exact ⟨⟨k + 1, by omega, by omega, hw⟩, by dsimp only; omega⟩
  · refine ⟨s, At.own (eqS hw) (by exact ⟨rfl, trivial⟩), Br.mk (fun h1 => ?_) (fun h1 => ?_)⟩
    · exact ⟨t, At.own (eqS hw) (by exact ⟨rfl, trivial⟩), ⟨_, rfl⟩, hw.drop⟩
    · exact ⟨⟨_, rfl⟩, hw.drop⟩

theorem counts_spec (hw : Sat R Hs w) (hv : RoI R s v) (hl : RoI R t l) (hx : RoI R u x) :
    Gets Try.prog 3 #[.agg #[.slice s.a s.len s.cap, .slice t.a t.len t.cap], .slice u.a u.len u.cap] w fun r w' => r = .bool true ∧ Sat R Hs w' := by
  apply call3
  refine new_rule hw fun b w hw => ?_
  refine (awake_spec hw).use ?_
  rintro _ w ⟨rfl, hw⟩
  refine ⟨_, rfl, s, t, At.own (eqS hw) (by exact ⟨rfl, rfl, trivial⟩), new_rule hw fun c w hw => ?_⟩
  obtain ⟨hc, hw⟩ := Sat.lend.1 hw
  have hm : Ro (R.add (Heap.one c (.cells [.slice u.a u.len u.cap].toArray 22 (0, 0)))) ⟨some ⟨c, 0, none⟩, 1, 1⟩ ([u].map Sl.v) :=
    ⟨rfl, by simp, fun _ => ⟨c, 0, _, 22, (0, 0), rfl, Cx.lent hc, fun i v h => by simpa [Sl.v] using h⟩⟩
  refine (few_spec hw hm).use ?_
  rintro _ w ⟨⟨ok, rfl⟩, hw⟩
  have hw := (Sat.lend.2 ⟨hc, hw⟩).drop
  refine ⟨_, rfl, fun w => Sat R (pts b (.cells [.slice s.a s.len s.cap, .slice t.a t.len t.cap].toArray 24 (0, 0)) :: Hs) w, ?_, ?_⟩
  · refine Br.f rfl (Br.mk (fun _ => ⟨rfl, hw.drop⟩) (fun _ => hw))
  · rintro z w hw
    refine drw_rule hw fun w hw => ?_
    refine ⟨s, t, At.own selfS (by exact ⟨rfl, rfl, trivial⟩), s, t, At.own selfS (by exact ⟨rfl, rfl, trivial⟩), ?_⟩
    refine (right_spec hw hv hl).use ?_
    rintro _ w ⟨rfl, hw⟩
    refine ⟨_, rfl, hw, (refRight_spec hw hv hl).use ?_⟩
    rintro _ w ⟨rfl, hw⟩
    refine ⟨_, rfl, hw, Br.t (by simp) ?_⟩
    refine ⟨s, t, At.own selfS (by exact ⟨rfl, rfl, trivial⟩), s, t, At.own selfS (by exact ⟨rfl, rfl, trivial⟩), ?_⟩
    refine (need_spec hw hv hl).use ?_
    rintro _ w ⟨rfl, hw⟩
    refine ⟨_, rfl, hw, (refNeed_spec hw hv hl).use ?_⟩
    rintro _ w ⟨rfl, hw⟩
    refine ⟨_, rfl, hw, Br.t (by simp) ?_⟩
    refine ⟨s, t, At.own selfS (by exact ⟨rfl, rfl, trivial⟩), s, t, At.own selfS (by exact ⟨rfl, rfl, trivial⟩), ?_⟩
    refine (wins_spec hw hv hl hx).use ?_
    rintro _ w ⟨rfl, hw⟩
    refine ⟨_, rfl, hw, (refWins_spec hw hv hl hx).use ?_⟩
    rintro _ w ⟨rfl, hw⟩
    refine ⟨_, rfl, hw, Br.t (by simp) ?_⟩
    refine ⟨s, t, At.own selfS (by exact ⟨rfl, rfl, trivial⟩), s, t, At.own selfS (by exact ⟨rfl, rfl, trivial⟩), ?_⟩
    refine (lost_spec hw hv hl hx).use ?_
    rintro _ w ⟨rfl, hw⟩
    refine ⟨_, rfl, hw, (refLost_spec hw hv hl hx).use ?_⟩
    rintro _ w ⟨rfl, hw⟩
    exact ⟨_, rfl, hw, by simp, hw.drop⟩

end Go.Proofs.Ytjbpncdealpmhaa
