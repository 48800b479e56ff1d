/- QuorumMiddles: the two middles, walked. Condition: slices of at most 2^47 elements. -/
import Derived.Test.YtjbpncdealpmhaaQ5
import Derived.Test.YtjbpncdealpmhaaSl4
import Derived.Test.YtjbpncdealpmhaaQSh
import Derived.Test.YtjbpncdealpmhaaQB2
namespace Go.Proofs.Ytjbpncdealpmhaa
open Go Go.VC

variable {R : Cx} {Hs : List HP} {w : World} {s t u : Sl} {xs v l x A : List Int}

theorem sort_spec {T : TypeId} {zs : List Int} (hw : Sat R (Own s T (zs.map (Value.int .i64)) :: Hs) w) (hz : zs.length < 4611686018427387904) :
    Gets Try.prog 31 #[.slice s.a s.len s.cap] w fun r w' => r = .tuple #[] ∧ Sat R (Own s T ((sortL zs).map (Value.int .i64)) :: Hs) w' := by
  rcases Own.cases hw with ⟨rfl, h0, hn⟩ | ⟨b, rest, rfl, hp⟩
  · have : zs = [] := by simpa using h0
    subst this
    refine Calls.mono (Try.slices_Sort_int_none none 0 w) ?_
    rintro e w' ⟨rfl, rfl⟩
    exact ⟨_, rfl, rfl, by simpa [sortL] using Own.nil hn⟩
  · have hat := hp.at
    have hlt : b < w.heap.size := (Array.getElem?_eq_some_iff.1 hat).1
    have e : (⟨some ⟨b, 0, none⟩, (zs.map (Value.int .i64)).length, (zs.map (Value.int .i64) ++ rest).length⟩ : Sl) = ⟨some ⟨b, 0, none⟩, zs.length, (zs.map (Value.int .i64) ++ rest).length⟩ := by simp
    rw [e]
    refine Calls.mono (Try.slices_Sort_int b 0 (zs.map (Value.int .i64) ++ rest).length zs w ?_ hlt hz) ?_
    · intro j hj
      have hj' : j < zs.length := by simpa using hj
      refine ⟨?_, frozen_no hat _⟩
      rw [cell_of hat, Nat.zero_add, List.getElem?_append_left (by simpa using hj')]
      simp [hj']
    · rintro e w' ⟨rfl, n, os, rfl⟩
      refine ⟨_, rfl, rfl, ?_⟩
      have h2 := putRow_sat (Value.int .i64) (ys := sortL zs) (sortL_len zs) hp n os
      have h3 := Own.of_pts h2
      have hl := sortL_len zs
      simp only [List.length_map, List.length_append, hl] at h3 ⊢
      exact h3

theorem el_int : El Try.prog 22 22 3 8 := ⟨Try.underlying22, ⟨_, Try.underlying22⟩, by kernel_rfl⟩

/-- A group of which one is a voter: where it stands. -/
theorem right_at (h : rightG v l = true) {k : Nat} (hk : k < v.length) : 0 < v[k] ∧ v[k] ≤ 15 := rises_mem (right_rises h) _ (List.getElem_mem hk)

theorem pick_at (hA : A.length = 16) {n : Int} (h0 : 0 < n) (h1 : n ≤ 15) : ∃ h : n.toNat < A.length, A[n.toNat] = pick A n := by
  have : n.toNat < A.length := by omega
  exact ⟨this, by unfold pick; rw [getD_lt this]⟩

theorem middle_spec (hw : Sat R Hs w) (hv : RoI R s v) (hl : RoI R t l) (hA : A.length = 16) :
    Gets Try.prog 20 #[.agg #[.slice s.a s.len s.cap, .slice t.a t.len t.cap], .agg (A.map (Value.int .i64)).toArray] w fun r w' => r = .int .i64 (midL v l A) ∧ Sat R Hs w' := by
  have hlen := RoI.len hv
  have hbd := RoI.bound hv
  apply call20
  refine new_rule hw fun b w hw => new_rule hw fun c w hw => ?_
  have hw : Sat R (pts c (.cells (A.map (Value.int .i64)).toArray 30 (0, 0)) :: pts b (.cells [.slice s.a s.len s.cap, .slice t.a t.len t.cap].toArray 24 (0, 0)) :: Hs) w := hw
  refine ⟨s, t, At.own (eqS hw) (by exact ⟨rfl, rfl, trivial⟩), ?_⟩
  refine (right_spec hw hv hl).use ?_
  rintro _ w ⟨rfl, hw⟩
  refine ⟨_, rfl, Br.mk (fun h => ?_) (fun h => ?_)⟩
  · simp only [Bool.not_eq_true'] at h
    exact ⟨by simp [midL, h], hw.drop.drop⟩
  · simp only [Bool.not_eq_false'] at h
    have h15 := rises_len15 (right_rises h)
    refine ⟨s, At.own (eqS hw) (by exact ⟨rfl, trivial⟩), ?_⟩
    refine ⟨fun all i w => ∃ k : Nat, i = k ∧ k ≤ v.length ∧ Sat R (Own all 3 (((v.take k).map (pick A)).map (Value.int .i64)) :: pts c (.cells (A.map (Value.int .i64)).toArray 30 (0, 0)) :: pts b (.cells [.slice s.a s.len s.cap, .slice t.a t.len t.cap].toArray 24 (0, 0)) :: Hs) w,
      fun _ i _ => v.length - i.toNat, ⟨0, rfl, Nat.zero_le _, Own.nil hw⟩, ?_⟩
    rintro z all _ w ⟨k, rfl, hk, hw⟩
    refine Br.mk (fun h1 => ?_) (fun h1 => ?_) <;> simp only [decide_eq_true_eq, decide_eq_false_iff_not] at h1
    · have hk' : k < v.length := by omega
      obtain ⟨n0, n1⟩ := right_at h hk'
      obtain ⟨hn, hp⟩ := pick_at hA n0 n1
      refine hv.idx (eqS hw) hk' (Rng.mk (by omega) (by omega) ⟨_, At.ints (eqS hw) hn, ?_⟩)
      refine pushI_rule el_int hw (by simp; omega) fun all' w' hw => ?_
      have e : (v.take k).map (pick A) ++ [A[(v[k]).toNat]] = (v.take (k + 1)).map (pick A) := by
        rw [List.take_succ_eq_append_getElem hk', hp, List.map_append]; rfl
      rw [e] at hw
      rw [wrap64 (by omega) (by omega)]
      exact ⟨⟨k + 1, by omega, by omega, hw⟩, by dsimp only; omega⟩
    · have : k = v.length := by omega
      subst this
      rw [List.take_length] at hw
      refine (sort_spec hw (by simp; omega)).use ?_
      rintro _ w ⟨rfl, hw⟩
      have hs := sortL_len (v.map (pick A))
      rw [List.length_map] at hs
      obtain ⟨R', hr, hro, hw, hback⟩ := Own.lendI hw (by omega)
      have hv' := hro _ _ hv
      have hl' := hro _ _ hl
      refine ⟨rfl, s, t, At.own (eqS hw) (by exact ⟨rfl, rfl, trivial⟩), ?_⟩
      refine (need_spec hw hv' hl').use ?_
      rintro _ w ⟨rfl, hw⟩
      have hal := RoI.len hr
      rw [hs] at hal
      have hp := right_pos h
      have e : IntKind.i64.wrap ((all.len : Int) - needG v l) = ((v.length - (v.length / 2 + 1) : Nat) : Int) := by
        unfold needG
        rw [if_pos h, hal, wrap64 (by omega) (by omega)]; omega
      refine ⟨_, rfl, ?_⟩
      rw [e]
      have hk : v.length - (v.length / 2 + 1) < (sortL (v.map (pick A))).length := by omega
      refine hr.idx (eqS hw) hk ⟨?_, (hback hw).drop.drop.drop⟩
      unfold midL
      rw [if_pos h, getD_lt hk]

end Go.Proofs.Ytjbpncdealpmhaa
