/- QuorumOnce: the law's walk. Condition: slices of at most 2^47 elements. -/
import Derived.Test.YtjbpncdealpmhaaQ9
namespace Go.Proofs.Ytjbpncdealpmhaa
open Go Go.VC

variable {R : Cx} {Hs : List HP} {w : World} {s t u : Sl} {xs v l x A B : List Int}

/-! ### Plain -/

theorem hasL_mem {l : List Int} {n : Int} : hasL l n = true ↔ n ∈ l := by
  induction l with
  | nil => simp [hasL]
  | cons a l ih => simp [hasL, ih]; exact ⟨fun h => h.imp Eq.symm id, fun h => h.imp Eq.symm id⟩

theorem rises_nodup : ∀ {l : List Int} {a : Int}, risesL a l = true → l.Nodup
  | [], _, _ => List.nodup_nil
  | x :: l, a, h => by
    simp only [risesL, Bool.and_eq_true, Bool.not_eq_true', decide_eq_false_iff_not] at h
    refine List.nodup_cons.2 ⟨fun hx => ?_, rises_nodup h.2⟩
    have := rises_mem h.2 x hx
    omega

theorem countL_congr {p q : Int → Bool} {l : List Int} (h : ∀ x ∈ l, p x = q x) : countL p l = countL q l := by
  unfold countL; rw [List.filter_congr h]

/-- Among the voters of which p is true are those. -/
theorem count_filter (p : Int → Bool) (v : List Int) : countL (hasL (v.filter p)) v = countL p v :=
  countL_congr fun x hx => by
    have : hasL (v.filter p) x = true ↔ p x = true := by rw [hasL_mem, List.mem_filter]; exact ⟨fun h => h.2, fun h => ⟨hx, h⟩⟩
    cases h1 : hasL (v.filter p) x <;> cases h2 : p x <;> simp_all

theorem countL_not (p : Int → Bool) : ∀ v : List Int, countL p v + countL (fun n => !p n) v = v.length
  | [] => by simp [countL]
  | n :: v => by
    have ih := countL_not p v
    unfold countL at *
    simp only [List.filter_cons, List.length_cons]
    cases h : p n <;> simp <;> omega

theorem once_others {v l x : List Int} (h : winsG v l x = true) : winsG v l (v.filter fun n => !hasL x n) = false := by
  unfold winsG at *
  simp only [Bool.and_eq_true, decide_eq_true_eq] at h
  obtain ⟨hr, hw⟩ := h
  rw [hr, Bool.true_and, decide_eq_false_iff_not, count_filter]
  have := countL_not (hasL x) v
  unfold needG at *
  rw [if_pos hr] at *
  omega

theorem once_lost {v l x : List Int} (h : winsG v l x = true) : lostG v l x = true := by
  unfold winsG lostG at *
  simp only [Bool.and_eq_true, decide_eq_true_eq] at *
  obtain ⟨hr, hw⟩ := h
  refine ⟨hr, ?_⟩
  unfold needG at *
  rw [if_pos hr] at *
  omega

theorem once_least {v l A : List Int} (hr : rightG v l = true) : winsG v l (v.filter fun n => decide (pick A n ≥ midL v l A)) = true := by
  have h := (mid_is hr (A := A)).many
  rw [countL_map, List.length_map] at h
  unfold winsG
  rw [hr, Bool.true_and, decide_eq_true_eq, count_filter]
  unfold needG
  rw [if_pos hr]
  omega

theorem once_more {v l A : List Int} (hr : rightG v l = true) : winsG v l (v.filter fun n => decide (pick A n > midL v l A)) = false := by
  have h := (mid_is hr (A := A)).few
  rw [countL_map, List.length_map] at h
  unfold winsG
  rw [hr, Bool.true_and, decide_eq_false_iff_not, count_filter]
  unfold needG
  rw [if_pos hr]
  omega

theorem filter_snoc (p : Int → Bool) {k : Nat} (hk : k < v.length) : (v.take (k + 1)).filter p = (v.take k).filter p ++ if p v[k] then [v[k]] else [] := by
  rw [List.take_succ_eq_append_getElem hk, List.filter_append]
  cases h : p v[k] <;> simp [h]

theorem filter_len (p : Int → Bool) (k : Nat) (h : v.length ≤ 15) : ((v.take k).filter p).length < 1000000000000 := by
  have := List.length_filter_le p (v.take k)
  rw [List.length_take] at this; omega

/-! ### The law -/
/-- What is kept of a group and the numbers. -/
abbrev Keep (c b : Nat) (s t : Sl) (A : List Int) (Hs : List HP) : List HP :=
  pts c (.cells (A.map (Value.int .i64)).toArray 30 (0, 0)) :: pts b (.cells [.slice s.a s.len s.cap, .slice t.a t.len t.cap].toArray 24 (0, 0)) :: Hs

theorem once_law (hw : Sat R Hs w) (hv : RoI R s v) (hl : RoI R t l) (hx : RoI R u x) (hA : A.length = 16) :
    Gets Try.prog 6 #[.agg #[.slice s.a s.len s.cap, .slice t.a t.len t.cap], .slice u.a u.len u.cap, .agg (A.map (Value.int .i64)).toArray] w fun r w' => r = .bool true ∧ Sat R Hs w' := by
  have hlen := RoI.len hv
  apply call6
  refine new_rule hw fun b w hw => new_rule hw fun c w hw => ?_
  have hw : Sat R (Keep c b s t A Hs) w := hw
  refine (awake_spec hw).use ?_
  rintro _ w ⟨rfl, hw⟩
  refine ⟨_, rfl, s, t, At.own (eqS hw) (by exact ⟨rfl, rfl, trivial⟩), new_rule hw fun d w hw => ?_⟩
  obtain ⟨hc, hw⟩ := Sat.lend.1 hw
  have hm : Ro (R.add (Heap.one d (.cells [.slice u.a u.len u.cap].toArray 22 (0, 0)))) ⟨some ⟨d, 0, none⟩, 1, 1⟩ ([u].map Sl.v) :=
    ⟨rfl, by simp, fun _ => ⟨d, 0, _, 22, (0, 0), rfl, Cx.lent hc, fun i v h => by simpa [Sl.v] using h⟩⟩
  refine (few_spec hw hm).use ?_
  rintro _ w ⟨⟨ok, rfl⟩, hw⟩
  have hw := (Sat.lend.2 ⟨hc, hw⟩).drop
  refine ⟨_, rfl, s, t, At.own (eqS hw) (by exact ⟨rfl, rfl, trivial⟩), ?_⟩
  refine (right_spec hw hv hl).use ?_
  rintro _ w ⟨rfl, hw⟩
  refine ⟨_, rfl, fun w => rightG v l = true ∧ Sat R (Keep c b s t A Hs) w, ?_, ?_⟩
  · refine Br.f rfl (Br.mk (fun _ => ⟨rfl, hw.drop.drop⟩) (fun _ => Br.mk (fun _ => ⟨rfl, hw.drop.drop⟩) (fun h => ?_)))
    exact ⟨by simpa using h, hw⟩
  rintro z w ⟨hr, hw⟩
  have h15 := rises_len15 (right_rises hr)
  refine ⟨s, t, At.own (eqS hw) (by exact ⟨rfl, rfl, trivial⟩), A.map (Value.int .i64), by simp [hA], At.own (eqS hw) (Pre.refl _), ?_⟩
  refine (middle_spec hw hv hl hA).use ?_
  rintro _ w ⟨rfl, hw⟩
  refine ⟨_, rfl, fun o le mo i w => ∃ k : Nat, i = k ∧ k ≤ v.length ∧ Sat R (Own o 3 (((v.take k).filter fun n => !hasL x n).map (Value.int .i64)) :: Own le 3 (((v.take k).filter fun n => decide (pick A n ≥ midL v l A)).map (Value.int .i64)) ::
      Own mo 3 (((v.take k).filter fun n => decide (pick A n > midL v l A)).map (Value.int .i64)) :: Keep c b s t A Hs) w, fun _ _ _ i _ => v.length - i.toNat,
      ⟨0, rfl, Nat.zero_le _, Own.nil (Own.nil (Own.nil hw))⟩, ?_⟩
  rintro z o le mo _ w ⟨k, rfl, hk, hw⟩
  refine ⟨s, At.own (eqS hw) (by exact ⟨rfl, trivial⟩), Br.mk (fun h => ?_) (fun h => ?_)⟩ <;> simp only [decide_eq_true_eq, decide_eq_false_iff_not] at h
  · have hk' : k < v.length := by omega
    obtain ⟨n0, n1⟩ := right_at hr hk'
    obtain ⟨hn, hp⟩ := pick_at hA n0 n1
    refine ⟨s, At.own (eqS hw) (by exact ⟨rfl, trivial⟩), hv.idx (eqS hw) hk' ?_⟩
    refine (has_spec _ hw hx).use ?_
    rintro _ w ⟨rfl, hw⟩
    rw [wrap64 (by omega) (by omega)]
    refine ⟨_, rfl, fun o w => Sat R (Own o 3 (((v.take (k + 1)).filter fun n => !hasL x n).map (Value.int .i64)) :: Own le 3 (((v.take k).filter fun n => decide (pick A n ≥ midL v l A)).map (Value.int .i64)) ::
      Own mo 3 (((v.take k).filter fun n => decide (pick A n > midL v l A)).map (Value.int .i64)) :: Keep c b s t A Hs) w, Br.mk (fun h1 => ?_) (fun h1 => ?_), ?_⟩
    · refine pushI_rule el_int hw (filter_len _ _ h15) fun o' w' hw => ?_
      rw [filter_snoc _ hk', h1]; exact hw
    · rw [filter_snoc _ hk', h1]; simpa using hw
    rintro z o w hw
    have hw := hw.swap
    have fin : ∀ o le mo w, Sat R (Own o 3 (((v.take (k + 1)).filter fun n => !hasL x n).map (Value.int .i64)) :: Own le 3 (((v.take (k + 1)).filter fun n => decide (pick A n ≥ midL v l A)).map (Value.int .i64)) ::
      Own mo 3 (((v.take (k + 1)).filter fun n => decide (pick A n > midL v l A)).map (Value.int .i64)) :: Keep c b s t A Hs) w →
      (∃ k' : Nat, ((k : Int) + 1) = k' ∧ k' ≤ v.length ∧ Sat R (Own o 3 (((v.take k').filter fun n => !hasL x n).map (Value.int .i64)) :: Own le 3 (((v.take k').filter fun n => decide (pick A n ≥ midL v l A)).map (Value.int .i64)) ::
      Own mo 3 (((v.take k').filter fun n => decide (pick A n > midL v l A)).map (Value.int .i64)) :: Keep c b s t A Hs) w) ∧ v.length - ((k : Int) + 1).toNat < v.length - (k : Int).toNat :=
      fun o le mo w h => ⟨⟨k + 1, by omega, by omega, h⟩, by omega⟩
    refine Rng.mk (by omega) (by omega) ⟨_, At.ints (eqS hw) hn, ?_⟩
    rw [hp]
    refine Br.mk (fun h2 => ?_) (fun h2 => ?_)
    · refine pushI_rule el_int hw (filter_len _ _ h15) fun le' w' hw => ?_
      have e2 := filter_snoc (fun n => decide (pick A n ≥ midL v l A)) hk'
      rw [h2, if_pos rfl] at e2
      rw [← e2] at hw
      refine Rng.mk (by omega) (by omega) ⟨_, At.ints (eqS hw) hn, ?_⟩
      rw [hp]
      have e3 := filter_snoc (fun n => decide (pick A n > midL v l A)) hk'
      refine Br.mk (fun h3 => ?_) (fun h3 => ?_)
      · have hw := (hw.take (Own mo 3 (((v.take k).filter fun n => decide (pick A n > midL v l A)).map (Value.int .i64))))
        refine pushI_rule el_int hw (filter_len _ _ h15) fun mo' w' hw => ?_
        rw [h3, if_pos rfl] at e3
        rw [← e3] at hw
        exact fin _ _ _ _ (hw.perm ((List.Perm.swap _ _ _).trans (((List.Perm.swap _ _ _).cons _).trans (List.Perm.swap _ _ _))))
      · rw [h3] at e3
        simp only [Bool.false_eq_true, if_false, List.append_nil] at e3
        rw [← e3] at hw
        exact fin _ _ _ _ hw.swap
    · have e2 := filter_snoc (fun n => decide (pick A n ≥ midL v l A)) hk'
      rw [h2] at e2
      simp only [Bool.false_eq_true, if_false, List.append_nil] at e2
      rw [← e2] at hw
      refine Rng.mk (by omega) (by omega) ⟨_, At.ints (eqS hw) hn, ?_⟩
      rw [hp]
      have e3 := filter_snoc (fun n => decide (pick A n > midL v l A)) hk'
      simp only [decide_eq_false_iff_not] at h2
      refine Br.f (by simp; omega) ?_
      have h3 : decide (pick A v[k] > midL v l A) = false := by simp; omega
      rw [h3] at e3
      simp only [Bool.false_eq_true, if_false, List.append_nil] at e3
      rw [← e3] at hw
      exact fin _ _ _ _ hw.swap
  · have : k = v.length := by omega
    subst this
    rw [List.take_length] at hw
    obtain ⟨R1, ho, hro1, hw, back1⟩ := Own.lendI hw (by have := List.length_filter_le (fun n => !hasL x n) v; omega)
    obtain ⟨R2, hle, hro2, hw, back2⟩ := Own.lendI hw (by have := List.length_filter_le (fun n => decide (pick A n ≥ midL v l A)) v; omega)
    obtain ⟨R3, hmo, hro3, hw, back3⟩ := Own.lendI hw (by have := List.length_filter_le (fun n => decide (pick A n > midL v l A)) v; omega)
    have hv := hro3 _ _ (hro2 _ _ (hro1 _ _ hv))
    have hl := hro3 _ _ (hro2 _ _ (hro1 _ _ hl))
    have hx := hro3 _ _ (hro2 _ _ (hro1 _ _ hx))
    have ho := hro3 _ _ (hro2 _ _ ho)
    have hle := hro3 _ _ hle
    have ret : ∀ {w}, Sat R3 (Keep c b s t A Hs) w → Sat R Hs w := fun h => (back1 (back2 (back3 h))).drop.drop.drop.drop.drop
    have tail : ∀ {w}, Sat R3 (Keep c b s t A Hs) w →
        (∃ g g1 : Sl, (At (fun w' => w' = w) ⟨b, 0, none⟩ [.slice g.a g.len g.cap, .slice g1.a g1.len g1.cap]) ∧
          Calls Try.prog 16 #[.agg #[.slice g.a g.len g.cap, .slice g1.a g1.len g1.cap], .slice le.a le.len le.cap] w fun e w1 =>
          ∃ r : Bool, (e = .returned (.bool r)) ∧ Br r
           (∃ g2 g3 : Sl, (At (fun w' => w' = w1) ⟨b, 0, none⟩ [.slice g2.a g2.len g2.cap, .slice g3.a g3.len g3.cap]) ∧
            Calls Try.prog 16 #[.agg #[.slice g2.a g2.len g2.cap, .slice g3.a g3.len g3.cap], .slice mo.a mo.len mo.cap] w1 fun e w2 =>
            ∃ r : Bool, (e = .returned (.bool r)) ∧ ((Value.bool (!r) = .bool true) ∧ Sat R Hs w2))
           ((Value.bool false = .bool true) ∧ Sat R Hs w1)) := fun hw => by
      refine ⟨s, t, At.own (eqS hw) (by exact ⟨rfl, rfl, trivial⟩), ?_⟩
      refine (wins_spec hw hv hl hle).use ?_
      rintro _ w ⟨rfl, hw⟩
      refine ⟨_, rfl, Br.t (once_least hr) ⟨s, t, At.own (eqS hw) (by exact ⟨rfl, rfl, trivial⟩), ?_⟩⟩
      refine (wins_spec hw hv hl hmo).use ?_
      rintro _ w ⟨rfl, hw⟩
      exact ⟨_, rfl, by rw [once_more hr]; rfl, ret hw⟩
    refine ⟨s, t, At.own (eqS hw) (by exact ⟨rfl, rfl, trivial⟩), ?_⟩
    refine (wins_spec hw hv hl hx).use ?_
    rintro _ w ⟨rfl, hw⟩
    refine ⟨_, rfl, Br.mk (fun h1 => ⟨s, t, At.own (eqS hw) (by exact ⟨rfl, rfl, trivial⟩), ?_⟩) (fun h1 => ⟨s, t, At.own (eqS hw) (by exact ⟨rfl, rfl, trivial⟩), ?_⟩)⟩
    · refine (wins_spec hw hv hl ho).use ?_
      rintro _ w ⟨rfl, hw⟩
      refine ⟨_, rfl, Br.f (once_others h1) ⟨s, t, At.own (eqS hw) (by exact ⟨rfl, rfl, trivial⟩), ?_⟩⟩
      refine (wins_spec hw hv hl hx).use ?_
      rintro _ w ⟨rfl, hw⟩
      refine ⟨_, rfl, Br.t h1 ⟨s, t, At.own (eqS hw) (by exact ⟨rfl, rfl, trivial⟩), ?_⟩⟩
      refine (lost_spec hw hv hl hx).use ?_
      rintro _ w ⟨rfl, hw⟩
      exact ⟨_, rfl, Br.f (by rw [once_lost h1]; rfl) (tail hw)⟩
    · refine (wins_spec hw hv hl hx).use ?_
      rintro _ w ⟨rfl, hw⟩
      exact ⟨_, rfl, Br.f h1 (tail hw)⟩

end Go.Proofs.Ytjbpncdealpmhaa
