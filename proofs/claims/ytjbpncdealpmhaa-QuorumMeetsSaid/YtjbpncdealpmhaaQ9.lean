/- QuorumRises and QuorumOnce: the laws' walks. Condition: slices of at most 2^47 elements. -/
import Derived.Test.YtjbpncdealpmhaaQ7
namespace Go.Proofs.Ytjbpncdealpmhaa
open Go Go.VC

variable {R : Cx} {Hs : List HP} {w : World} {s t u : Sl} {xs v l x A B : List Int}

/-! ### Plain -/

theorem mid_mono {v l A B : List Int} (h : rightG v l = true) (hle : ∀ n ∈ v, pick A n ≤ pick B n) : midL v l A ≤ midL v l B := by
  refine (mid_is h (A := B)).le ?_
  have h1 := (mid_is h (A := A)).many
  rw [countL_map, List.length_map] at h1
  rw [countL_map, List.length_map]
  have := countL_mono (l := v) (p := fun n => decide (pick A n ≥ midL v l A)) (q := fun n => decide (pick B n ≥ midL v l A)) (fun n hn hp => by
    have := hle n hn
    simp only [decide_eq_true_eq] at *; omega)
  omega

theorem mid_same {v l A : List Int} {c : Int} (h : rightG v l = true) (hc : ∀ n ∈ v, pick A n = c) : midL v l A = c := by
  have := (mid_is h (A := A)).mem
  obtain ⟨n, hn, e⟩ := List.mem_map.1 this
  rw [← e]; exact hc n hn

def maxI (a b : Int) : Int := if b > a then b else a
def highL (A B : List Int) : List Int := List.zipWith maxI A B
theorem highL_len (hA : A.length = 16) (hB : B.length = 16) : (highL A B).length = 16 := by simp [highL, hA, hB]

theorem pick_high (hA : A.length = 16) (hB : B.length = 16) {n : Int} (h0 : 0 ≤ n) (h1 : n ≤ 15) : pick A n ≤ pick (highL A B) n := by
  have a1 : n.toNat < A.length := by omega
  have b1 : n.toNat < B.length := by omega
  have c1 : n.toNat < (highL A B).length := by rw [highL_len hA hB]; omega
  unfold pick
  rw [getD_lt a1, getD_lt c1]
  simp only [highL, List.getElem_zipWith, maxI]
  split <;> omega

theorem pick_rep {n c : Int} (h0 : 0 ≤ n) (h1 : n ≤ 15) : pick (List.replicate 16 c) n = c := by
  have c1 : n.toNat < (List.replicate 16 c).length := by simp; omega
  unfold pick
  rw [getD_lt c1, List.getElem_replicate]

/-- An array of which the first k are told. -/
theorem part_set {C Z : List Int} {k : Nat} {x : Int} (hl : Z.length = C.length) (hk : k < C.length) (hx : x = C[k]) : (C.take k ++ Z.drop k).set k x = C.take (k + 1) ++ Z.drop (k + 1) := by
  have : k < Z.length := by omega
  rw [List.set_append_right _ _ (by simp; omega)]
  simp only [List.length_take, Nat.min_eq_left (Nat.le_of_lt hk), Nat.sub_self]
  rw [List.drop_eq_getElem_cons this, List.set_cons_zero, List.take_succ_eq_append_getElem hk, hx, List.append_assoc]; rfl

/-! ### The law QuorumRises -/

theorem rises_law (hw : Sat R Hs w) (hv : RoI R s v) (hl : RoI R t l) (hA : A.length = 16) (hB : B.length = 16) :
    Gets Try.prog 5 #[.agg #[.slice s.a s.len s.cap, .slice t.a t.len t.cap], .agg (A.map (Value.int .i64)).toArray, .agg (B.map (Value.int .i64)).toArray] w fun r w' => r = .bool true ∧ Sat R Hs w' := by
  apply call5
  refine new_rule hw fun b w hw => new_rule hw fun c w hw => new_rule hw fun d w hw => ?_
  have hw : Sat R (pts d (.cells (B.map (Value.int .i64)).toArray 30 (0, 0)) :: pts c (.cells (A.map (Value.int .i64)).toArray 30 (0, 0)) :: pts b (.cells [.slice s.a s.len s.cap, .slice t.a t.len t.cap].toArray 24 (0, 0)) :: Hs) w := hw
  refine (awake_spec hw).use ?_
  rintro _ w ⟨rfl, hw⟩
  refine ⟨_, rfl, s, t, At.own (eqS hw) (by exact ⟨rfl, rfl, trivial⟩), ?_⟩
  refine (few0_spec hw).use ?_
  rintro _ w ⟨⟨ok, rfl⟩, hw⟩
  refine ⟨_, rfl, s, t, At.own (eqS hw) (by exact ⟨rfl, rfl, trivial⟩), ?_⟩
  refine (right_spec hw hv hl).use ?_
  rintro _ w ⟨rfl, hw⟩
  refine ⟨_, rfl, fun w => rightG v l = true ∧ Sat R (pts d (.cells (B.map (Value.int .i64)).toArray 30 (0, 0)) :: pts c (.cells (A.map (Value.int .i64)).toArray 30 (0, 0)) :: pts b (.cells [.slice s.a s.len s.cap, .slice t.a t.len t.cap].toArray 24 (0, 0)) :: Hs) w, ?_, ?_⟩
  · refine Br.f rfl (Br.mk (fun _ => ⟨rfl, hw.drop.drop.drop⟩) (fun _ => Br.mk (fun _ => ⟨rfl, hw.drop.drop.drop⟩) (fun h => ?_)))
    exact ⟨by simpa using h, hw⟩
  rintro z w ⟨hr, hw⟩
  refine new_rule hw fun e w hw => new_rule hw fun f w hw => ?_
  have hz : ([.int .i64 0, .int .i64 0, .int .i64 0, .int .i64 0, .int .i64 0, .int .i64 0, .int .i64 0, .int .i64 0, .int .i64 0, .int .i64 0, .int .i64 0, .int .i64 0, .int .i64 0, .int .i64 0, .int .i64 0, .int .i64 0] : List Value) = (List.replicate 16 (0 : Int)).map (Value.int .i64) := rfl
  have hh := highL_len hA hB
  refine ⟨fun i w => ∃ k : Nat, i = k ∧ k ≤ 16 ∧ Sat R (pts f (.cells (((List.replicate 16 A[0]).take k ++ (List.replicate 16 (0 : Int)).drop k).map (Value.int .i64)).toArray 30 (0, 0)) :: pts e (.cells (((highL A B).take k ++ (List.replicate 16 (0 : Int)).drop k).map (Value.int .i64)).toArray 30 (0, 0)) ::
      pts d (.cells (B.map (Value.int .i64)).toArray 30 (0, 0)) :: pts c (.cells (A.map (Value.int .i64)).toArray 30 (0, 0)) :: pts b (.cells [.slice s.a s.len s.cap, .slice t.a t.len t.cap].toArray 24 (0, 0)) :: Hs) w, fun i _ => 16 - i.toNat, ⟨0, rfl, by omega, hw⟩, ?_⟩
  rintro z _ w ⟨k, rfl, hk, hw⟩
  refine Br.mk (fun h => ?_) (fun h => ?_) <;> simp only [decide_eq_true_eq, decide_eq_false_iff_not] at h
  · have hk' : k < 16 := by omega
    have hz1 : ((List.replicate 16 A[0]).take k ++ (List.replicate 16 (0 : Int)).drop k).set (k : Int).toNat A[0] = (List.replicate 16 A[0]).take (k + 1) ++ (List.replicate 16 (0 : Int)).drop (k + 1) :=
      part_set (by simp) (by simp; omega) (by rw [List.getElem_replicate])
    refine drw_rule hw fun w hw => ?_
    have ha : (k : Int).toNat < A.length := by omega
    have hb : (k : Int).toNat < B.length := by omega
    have hz2 : ((highL A B).take k ++ (List.replicate 16 (0 : Int)).drop k).set (k : Int).toNat (if B[(k : Int).toNat] > A[(k : Int).toNat] then B[(k : Int).toNat] else A[(k : Int).toNat]) = (highL A B).take (k + 1) ++ (List.replicate 16 (0 : Int)).drop (k + 1) :=
      part_set (by simp [hh]) (by omega) (by simp [highL, maxI])
    refine Rng.mk (by omega) (by omega) ⟨_, At.ints selfS ha, Rng.mk (by omega) (by omega) ⟨_, At.ints selfS hb, Rng.mk (by omega) (by omega) ?_⟩⟩
    refine storeI_rule (by kernel_rfl) hw (by simp [hh]; omega) fun w hw => ?_
    rw [hz2] at hw
    refine ⟨_, At.ints (eqS hw) (i := 0) (by omega), Rng.mk (by omega) (by omega) ?_⟩
    refine storeI_rule (by kernel_rfl) hw (by simp; omega) fun w hw => ?_
    rw [hz1] at hw
    rw [wrap64 (by omega) (by omega)]
    refine ⟨⟨k + 1, by omega, by omega, hw.perm ?_⟩, by dsimp only; omega⟩
    first | exact List.Perm.refl _ | exact List.Perm.swap _ _ _
  · have : k = 16 := by omega
    subst this
    rw [List.take_of_length_le (by simp), List.take_of_length_le (by omega), List.drop_of_length_le (by simp), List.append_nil, List.append_nil] at hw
    refine drw_rule hw fun w hw => ?_
    refine ⟨s, t, At.own selfS (by exact ⟨rfl, rfl, trivial⟩), (highL A B).map (Value.int .i64), by simp [hh], At.own selfS (Pre.refl _), s, t, At.own selfS (by exact ⟨rfl, rfl, trivial⟩), A.map (Value.int .i64), by simp [hA], At.own selfS (Pre.refl _), ?_⟩
    refine (middle_spec hw hv hl hh).use ?_
    rintro _ w ⟨rfl, hw⟩
    refine ⟨_, rfl, hw, (middle_spec hw hv hl hA).use ?_⟩
    rintro _ w ⟨rfl, hw⟩
    refine ⟨_, rfl, hw, Br.t ?_ ?_⟩
    · have := mid_mono hr (A := A) (B := highL A B) (fun n hn => by have := rises_mem (right_rises hr) n hn; exact pick_high hA hB (by omega) (by omega))
      simpa using this
    · refine ⟨s, t, At.own selfS (by exact ⟨rfl, rfl, trivial⟩), (List.replicate 16 A[0]).map (Value.int .i64), by simp, At.own selfS (Pre.refl _), _, At.ints selfS (i := 0) (by omega), ?_⟩
      refine (middle_spec hw hv hl (by simp)).use ?_
      rintro _ w ⟨rfl, hw⟩
      refine ⟨_, rfl, hw, ?_, hw.drop.drop.drop.drop.drop⟩
      rw [mid_same hr (fun n hn => by have := rises_mem (right_rises hr) n hn; exact pick_rep (by omega) (by omega))]
      simp

end Go.Proofs.Ytjbpncdealpmhaa
