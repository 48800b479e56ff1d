/- QuorumChanges: what its small functions give. Condition: at most 1000 numbers. -/
import Derived.Test.YtjbpncdealpmhaaQ11
import Derived.Test.YtjbpncdealpmhaaSl5
import Derived.Test.YtjbpncdealpmhaaQB3
namespace Go.Proofs.Ytjbpncdealpmhaa
open Go Go.VC

variable {R : Cx} {Hs : List HP} {w : World} {s t u : Sl} {xs ys v l x A B : List Int}

abbrev ints (l : List Int) : List Value := l.map (Value.int .i64)

def withL (n : Int) : List Int → List Int
  | [] => [n]
  | x :: l => if x > n then n :: x :: l else x :: withL n l
def withoutL (n : Int) (l : List Int) : List Int := l.filter fun x => x != n

theorem without_spec (n : Int) (hw : Sat R Hs w) (hs : RoI R s xs) (hx : xs.length ≤ 1000) :
    Gets Try.prog 35 #[.slice s.a s.len s.cap, .int .i64 n] w fun r w' => ∃ s' : Sl, r = .slice s'.a s'.len s'.cap ∧ Sat R (Own s' 3 (ints (withoutL n xs)) :: Hs) w' := by
  have hl := RoI.len hs
  apply call35
  refine ⟨fun o i w => ∃ k : Nat, i = k ∧ k ≤ xs.length ∧ Sat R (Own o 3 (ints (withoutL n (xs.take k))) :: Hs) w, fun _ i _ => xs.length - i.toNat, ⟨0, rfl, Nat.zero_le _, Own.nil hw⟩, ?_⟩
  rintro z o _ w ⟨k, rfl, hk, hw⟩
  refine Br.mk (fun h => ?_) (fun h => ?_) <;> simp only [decide_eq_true_eq, decide_eq_false_iff_not] at h
  · have hk' : k < xs.length := by omega
    rw [wrap64 (by omega) (by omega)]
    have e := filter_snoc (v := xs) (fun x => x != n) hk'
    refine hs.idx (eqS hw) hk' (Br.mk (fun h1 => ?_) (fun h1 => ?_))
    · rw [h1, if_pos rfl] at e
      refine hs.idx (eqS hw) hk' (pushI_rule el_int hw (by unfold withoutL; have := List.length_filter_le (fun x => x != n) (xs.take k); rw [List.length_take] at this; omega) fun o' w' hw => ?_)
      refine ⟨⟨k + 1, by omega, by omega, ?_⟩, by dsimp only; omega⟩
      unfold withoutL; rw [e]; exact hw
    · rw [h1] at e
      refine ⟨⟨k + 1, by omega, by omega, ?_⟩, by dsimp only; omega⟩
      unfold withoutL at *; rw [e]; simpa using hw
  · have : k = xs.length := by omega
    subst this
    rw [List.take_length] at hw
    exact ⟨o, rfl, hw⟩

theorem withL_app (n : Int) : ∀ (a b : List Int), (∀ x ∈ a, ¬ x > n) → withL n (a ++ b) = a ++ withL n b
  | [], _, _ => rfl
  | x :: a, b, h => by
    rw [List.cons_append, withL, if_neg (h x List.mem_cons_self), withL_app n a b fun y hy => h y (List.mem_cons_of_mem _ hy)]; rfl

theorem with_spec (n : Int) (hw : Sat R Hs w) (hs : RoI R s xs) (hx : xs.length ≤ 1000) :
    Gets Try.prog 36 #[.slice s.a s.len s.cap, .int .i64 n] w fun r w' => ∃ s' : Sl, r = .slice s'.a s'.len s'.cap ∧ Sat R (Own s' 3 (ints (withL n xs)) :: Hs) w' := by
  have hl := RoI.len hs
  apply call36
  refine ⟨fun o put i w => ∃ k : Nat, i = k ∧ k ≤ xs.length ∧ ∃ os : List Int, os.length ≤ k + 1 ∧ ((put = false ∧ os = xs.take k ∧ ∀ x ∈ xs.take k, ¬ x > n) ∨ (put = true ∧ os ++ xs.drop k = withL n xs)) ∧ Sat R (Own o 3 (ints os) :: Hs) w,
    fun _ _ i _ => xs.length - i.toNat, ⟨0, rfl, Nat.zero_le _, [], by simp, .inl ⟨rfl, rfl, by simp⟩, Own.nil hw⟩, ?_⟩
  rintro z o put _ w ⟨k, rfl, hk, os, hos, hput, hw⟩
  refine Br.mk (fun h => ?_) (fun h => ?_) <;> simp only [decide_eq_true_eq, decide_eq_false_iff_not] at h
  · have hk' : k < xs.length := by omega
    have e : xs.take (k + 1) = xs.take k ++ [xs[k]] := List.take_succ_eq_append_getElem hk'
    have e2 : xs.drop k = xs[k] :: xs.drop (k + 1) := drop_get hk'
    have e3 : withL n xs = withL n (xs.take k ++ xs.drop k) := by rw [List.take_append_drop]
    rw [wrap64 (by omega) (by omega)]
    rcases hput with ⟨rfl, rfl, hle⟩ | ⟨rfl, hput⟩
    · refine Br.t rfl (hs.idx (eqS hw) hk' (Br.mk (fun h1 => ?_) (fun h1 => ?_))) <;> simp only [decide_eq_true_eq, decide_eq_false_iff_not] at h1
      · refine pushI_rule el_int hw (by omega) fun o1 w hw => ?_
        refine hs.idx (eqS hw) hk' (pushI_rule el_int hw (by simp; omega) fun o2 w hw => ?_)
        refine ⟨⟨k + 1, by omega, by omega, _, by simp; omega, .inr ⟨rfl, ?_⟩, hw⟩, by dsimp only; omega⟩
        rw [e3, withL_app n _ _ hle, e2, withL, if_pos h1]; simp
      · refine hs.idx (eqS hw) hk' (pushI_rule el_int hw (by omega) fun o2 w hw => ?_)
        refine ⟨⟨k + 1, by omega, by omega, _, by simp; omega, .inl ⟨rfl, e.symm, fun x hx => ?_⟩, hw⟩, by dsimp only; omega⟩
        rw [e] at hx
        rcases List.mem_append.1 hx with hx | hx
        · exact hle x hx
        · simp at hx; rw [hx]; exact h1
    · refine Br.f rfl (hs.idx (eqS hw) hk' (pushI_rule el_int hw (by omega) fun o2 w hw => ?_))
      refine ⟨⟨k + 1, by omega, by omega, _, by simp; omega, .inr ⟨rfl, ?_⟩, hw⟩, by dsimp only; omega⟩
      rw [← hput, e2]; simp
  · have : k = xs.length := by omega
    subst this
    rcases hput with ⟨rfl, rfl, hle⟩ | ⟨rfl, hput⟩
    · refine Br.t rfl (pushI_rule el_int hw (by omega) fun o1 w hw => ⟨o1, rfl, ?_⟩)
      rw [List.take_length] at hw hle
      have := withL_app n xs [] hle
      rw [List.append_nil] at this
      rw [this]; exact hw
    · rw [List.drop_length, List.append_nil] at hput
      subst hput
      exact Br.f rfl ⟨o, rfl, hw⟩

theorem sameInts_spec (hw : Sat R Hs w) (hs : RoI R s xs) (ht : RoI R t ys) :
    Gets Try.prog 37 #[.slice s.a s.len s.cap, .slice t.a t.len t.cap] w fun r w' => r = .bool (xs == ys) ∧ Sat R Hs w' := by
  have hl := RoI.len hs
  have hl2 := RoI.len ht
  have hb := RoI.bound hs
  apply call37
  refine Br.mk (fun h => ?_) (fun h => ?_)
  · refine ⟨?_, hw⟩
    simp only [bne_iff_ne, ne_eq] at h
    have : xs ≠ ys := fun e => h (by rw [hl, hl2, e])
    simp [this]
  · have hll : xs.length = ys.length := by simp at h; omega
    refine ⟨fun i w => ∃ k : Nat, i = k ∧ k ≤ xs.length ∧ xs.take k = ys.take k ∧ Sat R Hs w, fun i _ => xs.length - i.toNat, ⟨0, rfl, Nat.zero_le _, rfl, hw⟩, ?_⟩
    rintro z _ w ⟨k, rfl, hk, he, hw⟩
    refine Br.mk (fun h => ?_) (fun h => ?_) <;> simp only [decide_eq_true_eq, decide_eq_false_iff_not] at h
    · have hk' : k < xs.length := by omega
      have hk2 : k < ys.length := by omega
      refine drw_rule hw fun w hw => hs.idx selfS hk' (ht.idx selfS hk2 (Br.mk (fun h1 => ?_) (fun h1 => ?_)))
      · refine ⟨?_, hw⟩
        simp only [bne_iff_ne, ne_eq] at h1
        have : xs ≠ ys := fun e => h1 (by subst e; rfl)
        simp [this]
      · rw [wrap64 (by omega) (by omega)]
        refine ⟨⟨k + 1, by omega, by omega, ?_, hw⟩, by dsimp only; omega⟩
        rw [List.take_succ_eq_append_getElem hk', List.take_succ_eq_append_getElem hk2, he]
        simp only [bne_eq_false_iff_eq] at h1
        rw [h1]
    · have : k = xs.length := by omega
      subst this
      rw [List.take_length, hll, List.take_length] at he
      exact ⟨by rw [he]; simp, hw⟩

theorem sameGroup_spec {s1 t1 s2 t2 : Sl} {v1 l1 v2 l2 : List Int} (hw : Sat R Hs w) (h1 : RoI R s1 v1) (h2 : RoI R t1 l1) (h3 : RoI R s2 v2) (h4 : RoI R t2 l2) :
    Gets Try.prog 25 #[.agg #[.slice s1.a s1.len s1.cap, .slice t1.a t1.len t1.cap], .agg #[.slice s2.a s2.len s2.cap, .slice t2.a t2.len t2.cap]] w fun r w' => r = .bool (v1 == v2 && l1 == l2) ∧ Sat R Hs w' := by
  apply call25
  refine new_rule hw fun b w hw => new_rule hw fun c w hw => ?_
  refine ⟨s1, At.own (eqS hw) (by exact ⟨rfl, trivial⟩), s2, At.own (eqS hw) (by exact ⟨rfl, trivial⟩), ?_⟩
  refine (sameInts_spec hw h1 h3).use ?_
  rintro _ w ⟨rfl, hw⟩
  refine ⟨_, rfl, t1, At.own (eqS hw) (by exact ⟨rfl, trivial⟩), t2, At.own (eqS hw) (by exact ⟨rfl, trivial⟩), ?_⟩
  refine (sameInts_spec hw h2 h4).use ?_
  rintro _ w ⟨rfl, hw⟩
  exact ⟨_, rfl, Br.mk (fun h => ⟨by rw [h]; simp, hw.drop.drop⟩) (fun h => ⟨by rw [h]; simp, hw.drop.drop⟩)⟩

/-! ### Copying, deleting -/

theorem Src_ro {w : World} (hw : Sat R Hs w) (hs : Ro R s (ints xs)) : Src Try.prog 1 22 (.slice s.a s.len s.cap) xs.length (ints xs) w := by
  have hl : s.len = xs.length := by have := hs.len; simpa using this
  by_cases hx : xs = []
  · subst hx
    obtain ⟨a, n, c⟩ := s
    simp only [List.length_nil] at hl
    subst hl
    cases a with
    | none => exact Go.Src.ofNil _ Try.underlying22 _
    | some a => exact Go.Src.ofSlice w Try.underlying22 _ 0 _ [] rfl (fun j u hj => by simp at hj) (fun u hu => by cases hu)
  · obtain ⟨b, off, l, T, fr, ha, hb, hel⟩ := hs.mem (by simpa using hx)
    obtain ⟨a, n, c⟩ := s
    simp only at ha hl
    subst ha hl
    refine Go.Src.ofSlice w Try.underlying22 _ _ _ _ (by simp) (fun j u hj => ?_) (fun u hu => ?_)
    · rw [add_off]
      have := hw.of_ro hb
      simp only [World.cell?, this, Option.isSome_none, Bool.false_eq_true, if_false]
      exact hel j u hj
    · obtain ⟨x, _, rfl⟩ := List.mem_map.1 hu; rfl

theorem clone_spec (hw : Sat R Hs w) (hs : RoI R s xs) (hx : xs.length ≤ 1000) :
    Gets Try.prog 34 #[.slice s.a s.len s.cap] w fun r w' => ∃ s' : Sl, r = .slice s'.a s'.len s'.cap ∧ Sat R (Own s' 3 (ints xs) :: Hs) w' := by
  have hl := RoI.len hs
  apply call34
  refine Br.mk (fun h => ?_) (fun h => ?_)
  · refine ⟨⟨none, 0, 0⟩, rfl, ?_⟩
    have : xs = [] := by
      by_cases hx : xs = []
      · exact hx
      · obtain ⟨b, off, l, T, fr, ha, _⟩ := Ro.mem hs (by simpa using hx)
        rw [ha] at h; cases h
    subst this
    exact Own.nil hw
  · refine new_rule hw fun b w hw => ?_
    have h0 : Sat R (Own ⟨some ⟨b, 0, none⟩, 0, 0⟩ 3 [] :: Hs) w := Own.of_pts (xs := []) (rest := []) hw
    obtain ⟨w', t', hr, hk⟩ := append_rule (ty := 22) (K := fun t' w' => Sat R (Own t' 3 (ints xs) :: Hs) w') el_int h0 (Src_ro h0 hs) rfl (by simp; omega) (by simp; omega) (fun s' w' h => by simpa using h)
    exact ⟨w', t', hr, t', rfl, hk⟩

theorem indexFunc_spec {f : Value} (p : Int → Bool) (hw : Sat R (Own s 3 (ints xs) :: Hs) w) (hx : xs.length ≤ 1000)
    (hf : ∀ (n : Int) (w : World), Sat R (Own s 3 (ints xs) :: Hs) w → CalW Try.prog cl f [.int .i64 n] w (fun e w' => e = .returned (.bool (p n)) ∧ Sat R (Own s 3 (ints xs) :: Hs) w')) :
    Gets Try.prog 42 #[.slice s.a s.len s.cap, f] w fun r w' => (∃ i : Int, r = .int .i64 i ∧ ((i = -1 ∧ ∀ x ∈ xs, p x = false) ∨ ∃ (k : Nat) (h : k < xs.length), i = k ∧ p xs[k] = true ∧ ∀ x ∈ xs.take k, p x = false)) ∧ Sat R (Own s 3 (ints xs) :: Hs) w' := by
  have hl := Own.len hw
  rw [List.length_map] at hl
  apply call42
  refine ⟨fun i w => ∃ k : Nat, i = k ∧ k ≤ xs.length ∧ (∀ x ∈ xs.take k, p x = false) ∧ Sat R (Own s 3 (ints xs) :: Hs) w, fun i _ => xs.length - i.toNat, ⟨0, rfl, Nat.zero_le _, by simp, hw⟩, ?_⟩
  rintro z _ w ⟨k, rfl, hk, hno, hw⟩
  refine Br.mk (fun h => ?_) (fun h => ?_) <;> simp only [decide_eq_true_eq, decide_eq_false_iff_not] at h
  · have hk' : k < xs.length := by omega
    refine Own.idx hw (eqS hw) hk' ((hf _ _ hw).mono ?_)
    rintro _ w ⟨rfl, hw⟩
    refine ⟨_, rfl, Br.mk (fun h1 => ?_) (fun h1 => ?_)⟩
    · exact ⟨⟨_, rfl, .inr ⟨k, hk', rfl, h1, hno⟩⟩, hw⟩
    · rw [wrap64 (by omega) (by omega)]
      refine ⟨⟨k + 1, by omega, by omega, fun x hx => ?_, hw⟩, by dsimp only; omega⟩
      rw [List.take_succ_eq_append_getElem hk'] at hx
      rcases List.mem_append.1 hx with hx | hx
      · exact hno x hx
      · simp at hx; rw [hx]; exact h1
  · have : k = xs.length := by omega
    subst this
    rw [List.take_length] at hno
    exact ⟨⟨_, rfl, .inl ⟨rfl, hno⟩⟩, hw⟩

theorem deleteFunc_spec {f : Value} (p : Int → Bool) (hw : Sat R (Own s 3 (ints xs) :: Hs) w) (hx : xs.length ≤ 1000)
    (hf : ∀ (zs : List Int) (n : Int) (w : World), Sat R (Own s 3 (ints zs) :: Hs) w → CalW Try.prog cl f [.int .i64 n] w (fun e w' => e = .returned (.bool (p n)) ∧ Sat R (Own s 3 (ints zs) :: Hs) w')) :
    Gets Try.prog 33 #[.slice s.a s.len s.cap, f] w fun r w' => ∃ s' : Sl, r = .slice s'.a s'.len s'.cap ∧ Sat R (Own s' 3 (ints (xs.filter fun n => !p n)) :: Hs) w' := by
  have hl := Own.len hw
  rw [List.length_map] at hl
  apply call33
  refine (indexFunc_spec p hw hx (hf xs)).use ?_
  rintro _ w ⟨⟨i, rfl, hi⟩, hw⟩
  refine ⟨_, rfl, ?_⟩
  rcases hi with ⟨rfl, hno⟩ | ⟨k, hk, rfl, hpk, hno⟩
  · refine Br.t rfl ⟨s, rfl, ?_⟩
    rw [List.filter_eq_self.2 (fun x hx => by simp [hno x hx])]; exact hw
  · refine Br.f (by simp) ?_
    rw [wrap64 (by omega) (by omega)]
    refine ⟨fun i j w => ∃ (a b : Nat) (zs : List Int), i = a ∧ j = b ∧ a < b ∧ b ≤ xs.length ∧ zs.length = xs.length ∧ zs.take a = (xs.take b).filter (fun n => !p n) ∧ zs.drop b = xs.drop b ∧ Sat R (Own s 3 (ints zs) :: Hs) w,
      fun _ j _ => xs.length - j.toNat, ⟨k, k + 1, xs, rfl, by omega, by omega, by omega, rfl, ?_, rfl, hw⟩, ?_⟩
    · rw [filter_snoc _ hk, hpk, List.filter_eq_self.2 (fun x hx => by simp [hno x hx])]; simp
    rintro z _ _ w ⟨a, b, zs, rfl, rfl, hab, hb, hzl, hz1, hz2, hw⟩
    refine Br.mk (fun h => ?_) (fun h => ?_) <;> simp only [decide_eq_true_eq, decide_eq_false_iff_not] at h
    · have hb' : b < xs.length := by omega
      have hbz : b < zs.length := by omega
      have ez : zs[b] = xs[b] := by
        have h1 := hz2
        rw [drop_get hbz, drop_get hb'] at h1
        exact (List.cons.inj h1).1
      have ed : zs.drop (b + 1) = xs.drop (b + 1) := by
        have h1 := hz2
        rw [drop_get hbz, drop_get hb'] at h1
        exact (List.cons.inj h1).2
      rw [wrap64 (x := (b : Int) + 1) (by omega) (by omega), wrap64 (x := (a : Int) + 1) (by omega) (by omega)]
      refine Own.idx hw (eqS hw) hbz ((hf zs _ _ hw).mono ?_)
      rintro _ w ⟨rfl, hw⟩
      refine ⟨_, rfl, Br.mk (fun h1 => ?_) (fun h1 => ?_)⟩
      · refine Own.store (by kernel_rfl) hw (by omega) fun w hw => ?_
        refine ⟨⟨a + 1, b + 1, _, by omega, by omega, by omega, by omega, by simpa using hzl, ?_, ?_, hw⟩, by dsimp only; omega⟩
        · rw [filter_snoc _ hb', ← ez, h1, if_pos rfl, ← hz1]
          rw [List.take_succ_eq_append_getElem (by simp; omega), List.take_set_of_le (Nat.le_refl _)]; simp
        · rw [List.drop_set_of_lt (by omega), ed]
      · refine ⟨⟨a, b + 1, zs, by omega, by omega, by omega, by omega, hzl, ?_, ed, hw⟩, by dsimp only; omega⟩
        rw [filter_snoc _ hb', ← ez, h1, hz1]; simp
    · have : b = xs.length := by omega
      subst this
      rw [List.take_length] at hz1
      simp only [Int.toNat_natCast]
      have hcap := Own.cap hw
      refine ⟨by omega, by omega, ?_⟩
      refine Own.clearTail Try.underlying22 Try.zeroValue3 hw (by omega) fun w hw => ?_
      refine ⟨by omega, by omega, ⟨s.a, a, s.cap⟩, rfl, ?_⟩
      rw [← hz1]; exact hw

end Go.Proofs.Ytjbpncdealpmhaa
