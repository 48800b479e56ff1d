/- QuorumChanges, QuorumUndo, QuorumMeets: the laws' walks. Condition: slices of at most 2^63 numbers. -/
import Derived.Test.YtjbpncdealpmhaaQ17
namespace Go.Proofs.Ytjbpncdealpmhaa
open Go Go.VC

variable {R : Cx} {Hs Rest : List HP} {w : World} {s t u p q : Sl} {xs ys v l x A B x0 x1 : List Int} {kind n : Int}

/-- A changed group, from then on only read. -/
theorem ChQ.open {r : Value} (h : ChQ R Hs v l kind n r w) : ∃ (a b : Sl) (R' : Cx), r = .tuple #[.agg #[.slice a.a a.len a.cap, .slice b.a b.len b.cap], .int .i64 (chG v l kind n).2.2] ∧
    RoI R' a (chG v l kind n).1 ∧ RoI R' b (chG v l kind n).2.1 ∧ (∀ s xs, Ro R s xs → Ro R' s xs) ∧ Sat R' Hs w ∧ ∀ {Hs' w'}, Sat R' Hs' w' → Sat R Hs' w' := by
  obtain ⟨a, b, rfl, hw⟩ := h
  obtain ⟨h1, h2⟩ := chG_len v l kind n
  obtain ⟨R1, ha, hro1, hw, back1⟩ := Own.lendI hw (by omega)
  obtain ⟨R2, hb, hro2, hw, back2⟩ := Own.lendI hw (by omega)
  exact ⟨a, b, R2, rfl, hro2 _ _ ha, hb, fun s xs h => hro2 _ _ (hro1 _ _ h), hw, fun h => (back1 (back2 h)).drop.drop⟩

abbrev gr (b : Nat) (s t : Sl) : HP := pts b (.cells [.slice s.a s.len s.cap, .slice t.a t.len t.cap].toArray 24 (0, 0))

/-- A group is laid in a variable. -/
theorem putG {b : Nat} {a e : Sl} {K : World → Prop} (hw : Sat R (pts b (.cells #[.slice none 0 0, .slice none 0 0] 24 (0, 0)) :: Hs) w) (k : ∀ w', Sat R (gr b a e :: Hs) w' → K w') :
    ∃ w' : World, ((Instr.storeAt 24 (.pointer ((some ⟨b, 0, none⟩))) (.agg #[.slice a.a a.len a.cap, .slice e.a e.len e.cap])).run Try.prog w = .ok () w') ∧ K w' := by
  have hw : Sat R (pts b (.cells [.slice none 0 0, .slice none 0 0].toArray 24 (0, 0)) :: Hs) w := hw
  refine store_rule hw (by kernel_rfl) rfl (by simp [Value.cells]) fun w' h => ?_
  exact k w' h

theorem changes_law (kind n : Int) (hw : Sat R Hs w) (hv : RoI R s v) (hl : RoI R t l) :
    Gets Try.prog 7 #[.agg #[.slice s.a s.len s.cap, .slice t.a t.len t.cap], .int .i64 kind, .int .i64 n] w fun r w' => r = .bool true ∧ Sat R Hs w' := by
  apply call7
  refine new_rule hw fun b w hw => ?_
  have hw : Sat R (gr b s t :: Hs) w := hw
  refine (awake_spec hw).use ?_
  rintro _ w ⟨rfl, hw⟩
  refine ⟨_, rfl, s, t, At.own (eqS hw) (by exact ⟨rfl, rfl, trivial⟩), ?_⟩
  refine (few0_spec hw).use ?_
  rintro _ w ⟨⟨ok, rfl⟩, hw⟩
  refine ⟨_, rfl, Sat R (gr b s t :: Hs), Br.f rfl (Br.mk (fun _ => ⟨rfl, hw.drop⟩) (fun _ => hw)), fun z w hw => ?_⟩
  refine ⟨s, t, At.own (eqS hw) (by exact ⟨rfl, rfl, trivial⟩), ?_⟩
  refine (change_spec kind n hw hv hl).use ?_
  intro r w hc
  obtain ⟨a, e, R1, rfl, ha, he, ro1, hw, back1⟩ := hc.open
  refine ⟨a, e, _, rfl, new_rule hw fun c w hw => putG hw fun w hw => ?_⟩
  refine ⟨s, t, At.own (eqS hw) (by exact ⟨rfl, rfl, trivial⟩), ?_⟩
  refine (refChange_spec kind n hw (ro1 _ _ hv) (ro1 _ _ hl)).use ?_
  intro r w hc
  obtain ⟨a', e', R2, rfl, ha', he', ro2, hw, back2⟩ := hc.open
  refine ⟨a', e', _, rfl, new_rule hw fun d w hw => putG hw fun w hw => ?_⟩
  refine ⟨a, e, At.own (eqS hw) (by exact ⟨rfl, rfl, trivial⟩), a', e', At.own (eqS hw) (by exact ⟨rfl, rfl, trivial⟩), ?_⟩
  refine (sameGroup_spec hw (ro2 _ _ ha) (ro2 _ _ he) ha' he').use ?_
  rintro _ w ⟨rfl, hw⟩
  exact ⟨_, rfl, Br.t (by simp) ⟨by simp, (back1 (back2 hw)).drop.drop.drop⟩⟩

theorem undo_law (n : Int) (hw : Sat R Hs w) (hv : RoI R s v) (hl : RoI R t l) :
    Gets Try.prog 8 #[.agg #[.slice s.a s.len s.cap, .slice t.a t.len t.cap], .int .i64 n] w fun r w' => r = .bool true ∧ Sat R Hs w' := by
  apply call8
  refine new_rule hw fun b w hw => ?_
  have hw : Sat R (gr b s t :: Hs) w := hw
  refine (awake_spec hw).use ?_
  rintro _ w ⟨rfl, hw⟩
  refine ⟨_, rfl, s, t, At.own (eqS hw) (by exact ⟨rfl, rfl, trivial⟩), ?_⟩
  refine (few0_spec hw).use ?_
  rintro _ w ⟨⟨ok, rfl⟩, hw⟩
  refine ⟨_, rfl, Sat R (gr b s t :: Hs), Br.f rfl (Br.mk (fun _ => ⟨rfl, hw.drop⟩) (fun _ => hw)), fun z w hw => ?_⟩
  refine ⟨s, t, At.own (eqS hw) (by exact ⟨rfl, rfl, trivial⟩), ?_⟩
  refine (change_spec 1 n hw hv hl).use ?_
  intro r w hc
  obtain ⟨a, e, R1, rfl, ha, he, ro1, hw, back1⟩ := hc.open
  refine ⟨a, e, _, rfl, new_rule hw fun c w hw => putG hw fun w hw => ?_⟩
  rcases chG_cases v l 1 n with h | h | ⟨av, al, h⟩
  · rw [h]; exact Br.t rfl (Br.t rfl ⟨rfl, (back1 hw).drop.drop⟩)
  · rw [h]; exact Br.t rfl (Br.f rfl ⟨rfl, (back1 hw).drop.drop⟩)
  obtain ⟨u1, cv, u2, u3⟩ := undo h
  rw [h] at ha he ⊢
  refine Br.f rfl ⟨a, e, At.own (eqS hw) (by exact ⟨rfl, rfl, trivial⟩), ?_⟩
  refine (change_spec 3 n hw ha he).use ?_
  intro r w hc
  obtain ⟨a2, e2, R2, rfl, ha2, he2, ro2, hw, back2⟩ := hc.open
  rw [u1] at ha2 he2 ⊢
  refine ⟨a2, e2, _, rfl, new_rule hw fun d w hw => putG hw fun w hw => ?_⟩
  refine ⟨a, e, At.own (eqS hw) (by exact ⟨rfl, rfl, trivial⟩), ?_⟩
  refine (change_spec 2 n hw (ro2 _ _ ha) (ro2 _ _ he)).use ?_
  intro r w hc
  obtain ⟨a3, e3, R3, rfl, ha3, he3, ro3, hw, back3⟩ := hc.open
  rw [u2] at ha3 he3 ⊢
  refine ⟨a3, e3, _, rfl, new_rule hw fun f w hw => putG hw fun w hw => ?_⟩
  refine ⟨a3, e3, At.own (eqS hw) (by exact ⟨rfl, rfl, trivial⟩), ?_⟩
  refine (change_spec 3 n hw ha3 he3).use ?_
  intro r w hc
  obtain ⟨a4, e4, R4, rfl, ha4, he4, ro4, hw, back4⟩ := hc.open
  rw [u3] at ha4 he4 ⊢
  refine ⟨a4, e4, _, rfl, new_rule hw fun g w hw => putG hw fun w hw => ?_⟩
  have hv4 := ro4 _ _ (ro3 _ _ (ro2 _ _ (ro1 _ _ hv)))
  have hl4 := ro4 _ _ (ro3 _ _ (ro2 _ _ (ro1 _ _ hl)))
  refine ⟨a2, e2, At.own (eqS hw) (by exact ⟨rfl, rfl, trivial⟩), s, t, At.own (eqS hw) (by exact ⟨rfl, rfl, trivial⟩), ?_⟩
  refine (sameGroup_spec hw (ro4 _ _ (ro3 _ _ ha2)) (ro4 _ _ (ro3 _ _ he2)) hv4 hl4).use ?_
  rintro _ w ⟨rfl, hw⟩
  refine ⟨_, rfl, a4, e4, At.own (eqS hw) (by exact ⟨rfl, rfl, trivial⟩), s, t, At.own (eqS hw) (by exact ⟨rfl, rfl, trivial⟩), ?_⟩
  refine (sameGroup_spec hw ha4 he4 hv4 hl4).use ?_
  rintro _ w ⟨rfl, hw⟩
  exact ⟨_, rfl, Br.t rfl (Br.t rfl (Br.t rfl (Br.t (by simp) ⟨by simp, (back1 (back2 (back3 (back4 hw)))).drop.drop.drop.drop.drop⟩)))⟩

abbrev MB (d c b : Nat) (s t p q : Sl) (kind n : Int) (Hs : List HP) : List HP :=
  pts d (.cells [.slice p.a p.len p.cap, .slice q.a q.len q.cap].toArray 43 (0, 0)) :: pts c (.cells [.int .i64 kind, .int .i64 n].toArray 42 (0, 0)) :: gr b s t :: Hs

theorem meets_law (kind n : Int) (hw : Sat R Hs w) (hv : RoI R s v) (hl : RoI R t l) (h0 : RoI R p x0) (h1 : RoI R q x1) :
    Gets Try.prog 9 #[.agg #[.slice s.a s.len s.cap, .slice t.a t.len t.cap], .agg #[.int .i64 kind, .int .i64 n], .agg #[.slice p.a p.len p.cap, .slice q.a q.len q.cap]] w fun r w' => r = .bool true ∧ Sat R Hs w' := by
  have hlen := RoI.len hv
  have hbd := RoI.bound hv
  apply call9
  refine new_rule hw fun b w hw => new_rule hw fun c w hw => new_rule hw fun d w hw => ?_
  have hw : Sat R (MB d c b s t p q kind n Hs) w := hw
  refine (awake_spec hw).use ?_
  rintro _ w ⟨rfl, hw⟩
  refine ⟨_, rfl, s, t, At.own (eqS hw) (by exact ⟨rfl, rfl, trivial⟩), p, by rw [add_off]; exact At.own (eqS hw) (by exact ⟨rfl, trivial⟩), q, by rw [add_off]; exact At.own (eqS hw) (by exact ⟨rfl, trivial⟩), new_rule hw fun f w hw => ?_⟩
  obtain ⟨hc, hw⟩ := Sat.lend.1 hw
  have hm : Ro (R.add (Heap.one f (.cells [.slice p.a p.len p.cap, .slice q.a q.len q.cap].toArray 22 (0, 0)))) ⟨some ⟨f, 0, none⟩, 2, 2⟩ ([p, q].map Sl.v) :=
    ⟨rfl, by simp, fun _ => ⟨f, 0, _, 22, (0, 0), rfl, Cx.lent hc, fun i v h => by simpa [Sl.v] using h⟩⟩
  refine (few_spec hw hm).use ?_
  rintro _ w ⟨⟨ok, rfl⟩, hw⟩
  have hw := (Sat.lend.2 ⟨hc, hw⟩).drop
  refine ⟨_, rfl, Sat R (MB d c b s t p q kind n Hs), Br.f rfl (Br.mk (fun _ => ⟨rfl, hw.drop.drop.drop⟩) (fun _ => hw)), fun z w hw => ?_⟩
  refine ⟨s, t, At.own (eqS hw) (by exact ⟨rfl, rfl, trivial⟩), kind, by rw [add_off]; exact At.own (eqS hw) (by exact ⟨rfl, trivial⟩), n, by rw [add_off]; exact At.own (eqS hw) (by exact ⟨rfl, trivial⟩), ?_⟩
  refine (change_spec kind n hw hv hl).use ?_
  intro r w hc
  obtain ⟨a, e, R1, rfl, ha, he, ro1, hw, back1⟩ := hc.open
  have hv : RoI R1 s v := ro1 _ _ hv
  have hl : RoI R1 t l := ro1 _ _ hl
  have h0 : RoI R1 p x0 := ro1 _ _ h0
  have h1 : RoI R1 q x1 := ro1 _ _ h1
  refine ⟨a, e, _, rfl, new_rule hw fun g w hw => putG hw fun w hw => ?_⟩
  rcases chG_cases v l kind n with h | h | ⟨av, al, h⟩
  · rw [h]; exact Br.t rfl (Br.t rfl ⟨rfl, (back1 hw).drop.drop.drop.drop⟩)
  · rw [h]; exact Br.t rfl (Br.f rfl ⟨rfl, (back1 hw).drop.drop.drop.drop⟩)
  have hch := chG_changed h
  rw [h] at ha he ⊢
  refine Br.f rfl ⟨s, t, At.own (eqS hw) (by exact ⟨rfl, rfl, trivial⟩), p, by rw [add_off]; exact At.own (eqS hw) (by exact ⟨rfl, trivial⟩), ?_⟩
  refine (wins_spec hw hv hl h0).use ?_
  rintro _ w ⟨rfl, hw⟩
  refine ⟨_, rfl, a, e, At.own (eqS hw) (by exact ⟨rfl, rfl, trivial⟩), q, by rw [add_off]; exact At.own (eqS hw) (by exact ⟨rfl, trivial⟩), ?_⟩
  refine (wins_spec hw ha he h1).use ?_
  rintro _ w ⟨rfl, hw⟩
  refine ⟨_, rfl, a, e, At.own (eqS hw) (by exact ⟨rfl, rfl, trivial⟩), ?_⟩
  refine (right_spec hw ha he).use ?_
  rintro _ w ⟨rfl, hw⟩
  have hr : (Value.bool (rightG av al)) = .bool true := congrArg _ hch.right
  refine ⟨_, rfl, fun w => (∃ m ∈ v, hasL x0 m = true ∧ hasL x1 m = true ∧ hasL av m = true) ∧ Sat R1 (gr g a e :: MB d c b s t p q kind n Hs) w,
    Br.mk (fun _ => ⟨hr, (back1 hw).drop.drop.drop.drop⟩) (fun w0 => Br.mk (fun _ => ⟨hr, (back1 hw).drop.drop.drop.drop⟩) (fun w1 => ⟨meets hch (by simpa using w0) (by simpa using w1), hw⟩)), ?_⟩
  rintro z w ⟨⟨m, hm, m0, m1, m2⟩, hw⟩
  obtain ⟨j, hj, rfl⟩ := List.getElem_of_mem hm
  refine ⟨fun i w => ∃ k : Nat, i = k ∧ k ≤ j ∧ Sat R1 (gr g a e :: MB d c b s t p q kind n Hs) w, fun i _ => v.length - i.toNat, ⟨0, rfl, Nat.zero_le _, hw⟩, ?_⟩
  rintro z _ w ⟨k, rfl, hk, hw⟩
  have hk' : k < v.length := by omega
  refine ⟨s, At.own (eqS hw) (by exact ⟨rfl, trivial⟩), Br.t (by simp; omega) ⟨s, At.own (eqS hw) (by exact ⟨rfl, trivial⟩), hv.idx (eqS hw) hk' ?_⟩⟩
  refine ⟨p, by rw [add_off]; exact At.own (eqS hw) (by exact ⟨rfl, trivial⟩), (has_spec _ hw h0).use ?_⟩
  rintro _ w ⟨rfl, hw⟩
  refine ⟨_, rfl, q, by rw [add_off]; exact At.own (eqS hw) (by exact ⟨rfl, trivial⟩), (has_spec _ hw h1).use ?_⟩
  rintro _ w ⟨rfl, hw⟩
  refine ⟨_, rfl, a, At.own (eqS hw) (by exact ⟨rfl, trivial⟩), (has_spec _ hw ha).use ?_⟩
  rintro _ w ⟨rfl, hw⟩
  refine ⟨_, rfl, ?_⟩
  rw [wrap64 (by omega) (by omega)]
  have next : k ≠ j → (∃ k' : Nat, ((k : Int) + 1) = k' ∧ k' ≤ j ∧ Sat R1 (gr g a e :: MB d c b s t p q kind n Hs) w) ∧ v.length - ((k : Int) + 1).toNat < v.length - (k : Int).toNat :=
    fun hne => ⟨⟨k + 1, by omega, by omega, hw⟩, by omega⟩
  by_cases hkj : k = j
  · subst hkj
    exact Br.t m0 (Br.t m1 (Br.t m2 ⟨hr, (back1 hw).drop.drop.drop.drop⟩))
  · exact Br.mk (fun _ => Br.mk (fun _ => Br.mk (fun _ => ⟨hr, (back1 hw).drop.drop.drop.drop⟩) (fun _ => next hkj)) (fun _ => next hkj)) (fun _ => next hkj)

end Go.Proofs.Ytjbpncdealpmhaa
