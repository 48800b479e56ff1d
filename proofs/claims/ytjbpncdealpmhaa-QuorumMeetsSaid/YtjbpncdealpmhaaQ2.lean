/- QuorumCounts: Right, Need, Wins, Lost of the program and of the reference. Condition: slices of at most 2^47 elements. -/
import Derived.Test.YtjbpncdealpmhaaQ1
namespace Go.Proofs.Ytjbpncdealpmhaa
open Go Go.VC

def rightG (v l : List Int) : Bool := risesL 0 v && risesL 0 l && decide (v.length > 0) && countL (hasL l) v == 0
def needG (v l : List Int) : Int := if rightG v l then v.length / 2 + 1 else 0
def winsG (v l x : List Int) : Bool := rightG v l && decide (countL (hasL x) v ≥ needG v l)
def lostG (v l x : List Int) : Bool := rightG v l && decide (v.length - countL (hasL x) v < needG v l)

theorem countL_le (p : Int → Bool) (l : List Int) : countL p l ≤ l.length := by
  unfold countL; have := List.length_filter_le p l; omega
theorem countL_nn (p : Int → Bool) (l : List Int) : 0 ≤ countL p l := by unfold countL; omega

variable {R : Cx} {Hs : List HP} {w : World} {s t u : Sl} {xs v l x : List Int}

theorem among_spec (hw : Sat R Hs w) :
    Gets Try.prog 28 #[.slice s.a s.len s.cap] w fun f w' => ∃ b, f = .func (.func 38) #[] #[.pointer (some ⟨b, 0, none⟩)] ∧ Sat R (pts b (.cells [.slice s.a s.len s.cap].toArray 22 (0, 0)) :: Hs) w' := by
  apply call28
  refine new_rule hw fun b w hw => ?_
  exact ⟨b, rfl, hw⟩

/-- What the closure answers. -/
theorem among_calls {b : Nat} (hs : RoI R s xs) (n : Int) (w : World) (hw : Sat R (pts b (.cells [.slice s.a s.len s.cap].toArray 22 (0, 0)) :: Hs) w) :
    CalW Try.prog cl (.func (.func 38) #[] #[.pointer (some ⟨b, 0, none⟩)]) [.int .i64 n] w (fun e w' => e = .returned (.bool (hasL xs n)) ∧ Sat R (pts b (.cells [.slice s.a s.len s.cap].toArray 22 (0, 0)) :: Hs) w') := by
  show Calls Try.prog 38 #[.int .i64 n, .pointer (some ⟨b, 0, none⟩)] w _
  refine (among1_spec n hw hs).use ?_
  rintro _ w ⟨rfl, hw⟩
  exact ⟨rfl, hw⟩

/-- 'count(v, among(x))'. -/
theorem countAmong_spec (hw : Sat R Hs w) (hv : RoI R s v) (hx : RoI R t x) :
    Gets Try.prog 28 #[.slice t.a t.len t.cap] w fun f w1 => Sat R Hs w1 ∧ Gets Try.prog 27 #[.slice s.a s.len s.cap, f] w1 fun c w2 => c = .int .i64 (countL (hasL x) v) ∧ Sat R Hs w2 := by
  refine (among_spec hw).mono ?_
  rintro _ w ⟨b, rfl, hw⟩
  refine ⟨hw.drop, (count_spec (hasL x) hw hv (among_calls hx)).mono ?_⟩
  rintro _ w ⟨rfl, hw⟩
  exact ⟨rfl, hw.drop⟩

theorem right_spec (hw : Sat R Hs w) (hv : RoI R s v) (hl : RoI R t l) :
    Gets Try.prog 12 #[.agg #[.slice s.a s.len s.cap, .slice t.a t.len t.cap]] w fun r w' => r = .bool (rightG v l) ∧ Sat R Hs w' := by
  apply call12
  refine new_rule hw fun b w hw => ?_
  refine drw_rule hw fun w hw => ?_
  refine ⟨s, At.own selfS (by exact ⟨rfl, trivial⟩), ?_⟩
  refine (rises_spec hw hv).use ?_
  rintro _ w ⟨rfl, hw⟩
  refine ⟨_, rfl, hw, Br.mk (fun h1 => ?_) (fun h1 => ?_)⟩
  · refine ⟨t, At.own selfS (by exact ⟨rfl, trivial⟩), ?_⟩
    refine (rises_spec hw hl).use ?_
    rintro _ w ⟨rfl, hw⟩
    refine ⟨_, rfl, hw, Br.mk (fun h2 => ?_) (fun h2 => ?_)⟩
    · refine ⟨s, At.own selfS (by exact ⟨rfl, trivial⟩), Br.mk (fun h3 => ?_) (fun h3 => ?_)⟩
      · refine ⟨s, At.own selfS (by exact ⟨rfl, trivial⟩), t, At.own selfS (by exact ⟨rfl, trivial⟩), ?_⟩
        refine (countAmong_spec hw hv hl).use ?_
        rintro f w ⟨hw, hc⟩
        refine ⟨_, rfl, hw, hc.use ?_⟩
        rintro _ w ⟨rfl, hw⟩
        refine ⟨_, rfl, hw, ?_, hw.drop⟩
        have := RoI.len hv
        simp only [decide_eq_true_eq] at h3
        have h3' : v.length > 0 := by omega
        simp [rightG, h1, h2, h3']
      · refine ⟨?_, hw.drop⟩
        have := RoI.len hv
        simp only [decide_eq_false_iff_not] at h3
        have h3' : ¬ v.length > 0 := by omega
        simp [rightG, h3']
    · exact ⟨by simp [rightG, h2], hw.drop⟩
  · exact ⟨by simp [rightG, h1], hw.drop⟩

theorem need_spec (hw : Sat R Hs w) (hv : RoI R s v) (hl : RoI R t l) :
    Gets Try.prog 14 #[.agg #[.slice s.a s.len s.cap, .slice t.a t.len t.cap]] w fun r w' => r = .int .i64 (needG v l) ∧ Sat R Hs w' := by
  apply call14
  refine new_rule hw fun b w hw => ?_
  refine ⟨s, t, At.own (eqS hw) (by exact ⟨rfl, rfl, trivial⟩), ?_⟩
  refine (right_spec hw hv hl).use ?_
  rintro _ w ⟨rfl, hw⟩
  have h1 := RoI.len hv
  have h2 := RoI.bound hv
  refine ⟨_, rfl, Br.mk (fun h => ?_) (fun h => ?_)⟩
  · exact ⟨by simp at h; simp [needG, h], hw.drop⟩
  · refine ⟨s, At.own (eqS hw) (by exact ⟨rfl, trivial⟩), ?_, hw.drop⟩
    simp only [Bool.not_eq_false'] at h
    have e : ((s.len : Int).tdiv 2) = (v.length : Int) / 2 := by rw [h1, Int.tdiv_eq_ediv_of_nonneg (by omega)]
    rw [e, wrap64 (x := (v.length : Int) / 2) (by omega) (by omega), wrap64 (by omega) (by omega)]
    simp [needG, h]

theorem wins_spec (hw : Sat R Hs w) (hv : RoI R s v) (hl : RoI R t l) (hx : RoI R u x) :
    Gets Try.prog 16 #[.agg #[.slice s.a s.len s.cap, .slice t.a t.len t.cap], .slice u.a u.len u.cap] w fun r w' => r = .bool (winsG v l x) ∧ Sat R Hs w' := by
  apply call16
  refine new_rule hw fun b w hw => ?_
  refine drw_rule hw fun w hw => ?_
  refine ⟨s, t, At.own selfS (by exact ⟨rfl, rfl, trivial⟩), ?_⟩
  refine (right_spec hw hv hl).use ?_
  rintro _ w ⟨rfl, hw⟩
  refine ⟨_, rfl, hw, Br.mk (fun h1 => ?_) (fun h1 => ?_)⟩
  · refine ⟨s, At.own selfS (by exact ⟨rfl, trivial⟩), s, t, At.own selfS (by exact ⟨rfl, rfl, trivial⟩), ?_⟩
    refine (countAmong_spec hw hv hx).use ?_
    rintro f w ⟨hw, hc⟩
    refine ⟨_, rfl, hw, hc.use ?_⟩
    rintro _ w ⟨rfl, hw⟩
    refine ⟨_, rfl, hw, (need_spec hw hv hl).use ?_⟩
    rintro _ w ⟨rfl, hw⟩
    exact ⟨_, rfl, hw, by simp [winsG, h1], hw.drop⟩
  · exact ⟨by simp [winsG, h1], hw.drop⟩

theorem lost_spec (hw : Sat R Hs w) (hv : RoI R s v) (hl : RoI R t l) (hx : RoI R u x) :
    Gets Try.prog 18 #[.agg #[.slice s.a s.len s.cap, .slice t.a t.len t.cap], .slice u.a u.len u.cap] w fun r w' => r = .bool (lostG v l x) ∧ Sat R Hs w' := by
  apply call18
  refine new_rule hw fun b w hw => ?_
  refine drw_rule hw fun w hw => ?_
  refine ⟨s, t, At.own selfS (by exact ⟨rfl, rfl, trivial⟩), ?_⟩
  refine (right_spec hw hv hl).use ?_
  rintro _ w ⟨rfl, hw⟩
  refine ⟨_, rfl, hw, Br.mk (fun h1 => ?_) (fun h1 => ?_)⟩
  · refine ⟨s, At.own selfS (by exact ⟨rfl, trivial⟩), s, At.own selfS (by exact ⟨rfl, trivial⟩), s, t, At.own selfS (by exact ⟨rfl, rfl, trivial⟩), ?_⟩
    refine (countAmong_spec hw hv hx).use ?_
    rintro f w ⟨hw, hc⟩
    refine ⟨_, rfl, hw, hc.use ?_⟩
    rintro _ w ⟨rfl, hw⟩
    refine ⟨_, rfl, hw, (need_spec hw hv hl).use ?_⟩
    rintro _ w ⟨rfl, hw⟩
    refine ⟨_, rfl, hw, ?_, hw.drop⟩
    have h2 := RoI.len hv
    have h3 := RoI.bound hv
    have h4 := countL_le (hasL x) v
    have h5 := countL_nn (hasL x) v
    rw [wrap64 (by omega) (by omega), h2]
    simp [lostG, h1]
  · exact ⟨by simp [lostG, h1], hw.drop⟩

/-! ### The reference -/

theorem refRises_spec (hw : Sat R Hs w) (hs : RoI R s xs) :
    Gets Try.prog 29 #[.slice s.a s.len s.cap] w fun r w' => r = .bool (risesL 0 xs) ∧ Sat R Hs w' := by
  have hl := RoI.len hs
  have hb := RoI.bound hs
  apply call29
  refine ⟨fun i w => ∃ k : Nat, i = k ∧ k ≤ xs.length ∧ (∃ last, risesL 0 xs = risesL last (xs.drop k) ∧ (k = 0 → last = 0) ∧ (∀ h : k - 1 < xs.length, 0 < k → last = xs[k - 1] ∧ 1 ≤ last)) ∧ Sat R Hs w, fun i _ => xs.length - i.toNat,
    ⟨0, rfl, Nat.zero_le _, ⟨0, rfl, fun _ => rfl, fun _ h => absurd h (by omega)⟩, hw⟩, ?_⟩
  rintro z _ w ⟨k, rfl, hk, ⟨last, hr, h0, hp⟩, hw⟩
  refine Br.mk (fun h => ?_) (fun h => ?_) <;> simp only [decide_eq_true_eq, decide_eq_false_iff_not] at h
  · have hk' : k < xs.length := by omega
    rw [drop_get hk'] at hr
    refine drw_rule hw fun w hw => ?_
    refine hs.idx selfS hk' (Br.mk (fun h1 => ?_) (fun h1 => hs.idx selfS hk' (Br.mk (fun h2 => ?_) (fun h2 => Br.mk (fun h3 => ?_) (fun h3 => ?_))))) <;> simp only [decide_eq_true_eq, decide_eq_false_iff_not] at h1
    · have : xs[k] ≤ last := by
        rcases Nat.eq_zero_or_pos k with hz | hz
        · rw [h0 hz]; omega
        · have := (hp (by omega) hz).2; omega
      exact ⟨by rw [hr]; simp [risesL, this], hw⟩
    · exact ⟨by rw [hr]; simp only [risesL, h2]; simp, hw⟩
    · simp only [decide_eq_true_eq, decide_eq_false_iff_not] at h2 h3
      have hz : 0 < k := by omega
      obtain ⟨p1, p2⟩ := hp (by omega) hz
      refine hs.idx selfS hk' ?_
      have e : IntKind.i64.wrap ((k : Int) - 1) = ((k - 1 : Nat) : Int) := by rw [wrap64 (by omega) (by omega)]; omega
      rw [e]
      refine hs.idx selfS (k := k - 1) (by omega) (Br.mk (fun h4 => ?_) (fun h4 => ?_)) <;> simp only [decide_eq_true_eq, decide_eq_false_iff_not] at h4
      · exact ⟨by rw [hr, p1]; simp [risesL, h4], hw⟩
      · rw [wrap64 (by omega) (by omega)]
        refine ⟨⟨k + 1, by omega, by omega, ⟨xs[k], ?_, fun h => absurd h (by omega), fun _ _ => ⟨by simp, by omega⟩⟩, hw⟩, by dsimp only; omega⟩
        rw [hr, p1]; simp [risesL, h4]; intro h; omega
    · simp only [decide_eq_false_iff_not] at h2 h3
      have hz : k = 0 := by omega
      rw [wrap64 (by omega) (by omega)]
      refine ⟨⟨k + 1, by omega, by omega, ⟨xs[k], ?_, fun h => absurd h (by omega), fun _ _ => ⟨by simp, by omega⟩⟩, hw⟩, by dsimp only; omega⟩
      rw [hr, h0 hz]; simp [risesL]; intro h; omega
  · have : k = xs.length := by omega
    subst this
    exact ⟨by rw [hr]; simp [risesL], hw⟩

end Go.Proofs.Ytjbpncdealpmhaa
