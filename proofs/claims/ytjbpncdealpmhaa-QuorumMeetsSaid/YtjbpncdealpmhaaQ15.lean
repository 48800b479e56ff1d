/- QuorumChanges: the two changes, walked. Condition: slices of at most 2^63 numbers. -/
import Derived.Test.YtjbpncdealpmhaaQ14
namespace Go.Proofs.Ytjbpncdealpmhaa
open Go Go.VC

variable {R : Cx} {Hs Rest : List HP} {w : World} {s t u : Sl} {xs ys v l x A B : List Int} {kind n : Int}

/-- A group, and an error, are stored and returned. -/
theorem ret_rule {c : Nat} {p q : Value} {a b : Sl} {e : Int} {K : Value → World → Prop} (hw : Sat R Hs w) [tk : TakeP c Hs (.cells [p, q].toArray 24 (0, 0)) Rest]
    (k : ∀ w', Sat R (pts c (.cells [.slice a.a a.len a.cap, .slice b.a b.len b.cap].toArray 24 (0, 0)) :: Rest) w' → K (.tuple #[.agg #[.slice a.a a.len a.cap, .slice b.a b.len b.cap], .int .i64 e]) w') :
    ∃ w' : World, ((Instr.storeAt 24 (.pointer ((some ⟨c, 0, none⟩))) (.agg #[.slice a.a a.len a.cap, .slice b.a b.len b.cap])).run Try.prog w = .ok () w') ∧
      ∃ a' b' : Sl, (At (fun w'' => w'' = w') ⟨c, 0, none⟩ [.slice a'.a a'.len a'.cap, .slice b'.a b'.len b'.cap]) ∧
      K (.tuple #[.agg #[.slice a'.a a'.len a'.cap, .slice b'.a b'.len b'.cap], .int .i64 e]) w' := by
  refine store_rule hw (tk := tk) (by kernel_rfl) rfl (by simp [Value.cells]) fun w' h => ?_
  have h : Sat R (pts c (.cells [.slice a.a a.len a.cap, .slice b.a b.len b.cap].toArray 24 (0, 0)) :: Rest) w' := h
  exact ⟨a, b, At.own (eqS h) (by exact ⟨rfl, rfl, trivial⟩), k _ h⟩

/-- What a change returns. -/
def ChQ (R : Cx) (Hs : List HP) (v l : List Int) (kind n : Int) : Value → World → Prop := fun r w => ∃ a b : Sl, r = .tuple #[.agg #[.slice a.a a.len a.cap, .slice b.a b.len b.cap], .int .i64 (chG v l kind n).2.2] ∧
  Sat R (Own a 3 (ints (chG v l kind n).1) :: Own b 3 (ints (chG v l kind n).2.1) :: Hs) w

theorem ChQ.mk {a b : Sl} {g h : List Int} {e : Int} (hc : chG v l kind n = (g, h, e)) (hw : Sat R (Own a 3 (ints g) :: Own b 3 (ints h) :: Hs) w) :
    ChQ R Hs v l kind n (.tuple #[.agg #[.slice a.a a.len a.cap, .slice b.a b.len b.cap], .int .i64 e]) w := ⟨a, b, by rw [hc], by rw [hc]; exact hw⟩

theorem ChQ.err {e : Int} (hc : chG v l kind n = ([], [], e)) (hw : Sat R Hs w) : ChQ R Hs v l kind n (.tuple #[.agg #[.slice none 0 0, .slice none 0 0], .int .i64 e]) w :=
  ChQ.mk (a := ⟨none, 0, 0⟩) (b := ⟨none, 0, 0⟩) hc (Own.nil (Own.nil hw))

/-- An error is stored and returned. -/
theorem err_rule {c : Nat} {p q : Value} {e : Int} {K : Value → World → Prop} (hw : Sat R Hs w) [tk : TakeP c Hs (.cells [p, q].toArray 24 (0, 0)) Rest]
    (k : ∀ w', Sat R Rest w' → K (.tuple #[.agg #[.slice none 0 0, .slice none 0 0], .int .i64 e]) w') :
    ∃ w' : World, ((Instr.storeAt 24 (.pointer ((some ⟨c, 0, none⟩))) (.agg #[.slice none 0 0, .slice none 0 0])).run Try.prog w = .ok () w') ∧
      ∃ a' b' : Sl, (At (fun w'' => w'' = w') ⟨c, 0, none⟩ [.slice a'.a a'.len a'.cap, .slice b'.a b'.len b'.cap]) ∧
      K (.tuple #[.agg #[.slice a'.a a'.len a'.cap, .slice b'.a b'.len b'.cap], .int .i64 e]) w' :=
  ret_rule (tk := tk) (a := ⟨none, 0, 0⟩) (b := ⟨none, 0, 0⟩) hw fun w' h => k w' h.drop

theorem ab2 {A B : HP} (h : Sat R (A :: B :: tru :: Hs) w) : Sat R (tru :: Hs) w := (h.cons fun _ h => h.absorb).absorb
theorem ab3 {A B C : HP} (h : Sat R (A :: B :: C :: tru :: Hs) w) : Sat R (tru :: Hs) w := (h.cons fun _ h => h.cons fun _ h => h.absorb).cons (fun _ h => h.absorb) |>.absorb

theorem refChange_spec (kind n : Int) (hw : Sat R Hs w) (hv : RoI R s v) (hl : RoI R t l) :
    Gets Try.prog 24 #[.agg #[.slice s.a s.len s.cap, .slice t.a t.len t.cap], .int .i64 kind, .int .i64 n] w (ChQ R Hs v l kind n) := by
  have hlen := RoI.len hv
  apply call24
  refine new_rule hw fun b w hw => new_rule hw fun c w hw => ?_
  have hw : Sat R (pts c (.cells [.slice none 0 0, .slice none 0 0].toArray 24 (0, 0)) :: pts b (.cells [.slice s.a s.len s.cap, .slice t.a t.len t.cap].toArray 24 (0, 0)) :: Hs) w := hw
  refine ⟨s, t, At.own (eqS hw) (by exact ⟨rfl, rfl, trivial⟩), ?_⟩
  refine (refRight_spec hw hv hl).use ?_
  rintro _ w ⟨rfl, hw⟩
  refine ⟨_, rfl, fun w => ChOk v l kind n ∧ Sat R (pts c (.cells [.slice none 0 0, .slice none 0 0].toArray 24 (0, 0)) :: pts b (.cells [.slice s.a s.len s.cap, .slice t.a t.len t.cap].toArray 24 (0, 0)) :: Hs) w, ?_, ?_⟩
  · refine Br.mk (fun h => ?_) (fun h => Br.mk (fun h1 => ?_) (fun h1 => Br.mk (fun h2 => ?_) (fun h2 => Br.mk (fun h3 => ?_) (fun h3 => Br.mk (fun h4 => ?_) (fun h4 => ?_)))))
    · exact err_rule hw fun w h' => ChQ.err (chG_arg (.inl (by simpa using h))) h'.drop
    · exact err_rule hw fun w h' => ChQ.err (chG_arg (.inr (.inl (by simpa using h1)))) h'.drop
    · exact err_rule hw fun w h' => ChQ.err (chG_arg (.inr (.inr (.inl (by simpa using h2))))) h'.drop
    · exact err_rule hw fun w h' => ChQ.err (chG_arg (.inr (.inr (.inr (.inl (by simpa using h3)))))) h'.drop
    · exact err_rule hw fun w h' => ChQ.err (chG_arg (.inr (.inr (.inr (.inr (by simpa using h4)))))) h'.drop
    · simp only [decide_eq_false_iff_not, Bool.not_eq_false'] at h h1 h2 h3 h4
      exact ⟨⟨h, by omega, by omega, by omega, by omega⟩, hw⟩
  rintro z w ⟨ok, hw⟩
  have h15 := rises_len15 (right_rises ok.right)
  have h15' := rises_len15 (right_risesL ok.right)
  have hc := ok.eq
  refine ⟨s, At.own (eqS hw) (by exact ⟨rfl, trivial⟩), ?_⟩
  refine (has_spec n hw hv).use ?_
  rintro _ w ⟨rfl, hw⟩
  refine ⟨_, rfl, t, At.own (eqS hw) (by exact ⟨rfl, trivial⟩), ?_⟩
  refine (has_spec n hw hl).use ?_
  rintro _ w ⟨rfl, hw⟩
  refine ⟨_, rfl, ?_⟩
  -- the last way: both without
  have last : chG v l kind n = (withoutL n v, withoutL n l, 0) → Drw w fun S w_29 =>
            ∃ t88_1 : Sl, (At S ⟨b, 0, none⟩ [.slice t88_1.a t88_1.len t88_1.cap]) ∧
            ∃ t92_1 : Sl, (At S ⟨b, 0 + 1, none⟩ [.slice t92_1.a t92_1.len t92_1.cap]) ∧
            Calls Try.prog 35 #[.slice t88_1.a t88_1.len t88_1.cap, .int .i64 n] w_29 fun e_9 w_30 =>
            ∃ t90_1 : Sl, (e_9 = .returned (.slice t90_1.a t90_1.len t90_1.cap)) ∧
            (S w_30) ∧
            Calls Try.prog 35 #[.slice t92_1.a t92_1.len t92_1.cap, .int .i64 n] w_30 fun e_10 w_31 =>
            ∃ t94_1 : Sl, (e_10 = .returned (.slice t94_1.a t94_1.len t94_1.cap)) ∧
            (S w_31) ∧
            ∃ w_32 : World, ((Instr.storeAt 24 (.pointer ((some ⟨c, 0, none⟩))) (.agg #[.slice t90_1.a t90_1.len t90_1.cap, .slice t94_1.a t94_1.len t94_1.cap])).run Try.prog w_31 = .ok () w_32) ∧
            ∃ t7_26 : Sl, ∃ t7_27 : Sl, (At (fun w' => w' = w_32) ⟨c, 0, none⟩ [.slice t7_26.a t7_26.len t7_26.cap, .slice t7_27.a t7_27.len t7_27.cap]) ∧
            ChQ R Hs v l kind n (.tuple #[.agg #[.slice t7_26.a t7_26.len t7_26.cap, .slice t7_27.a t7_27.len t7_27.cap], .int .i64 0]) w_32 := fun hc => by
    refine drw_ruleT hw fun w hw => ?_
    refine ⟨s, At.own selfS (by exact ⟨rfl, trivial⟩), t, At.own selfS (by exact ⟨rfl, trivial⟩), ?_⟩
    refine (without_spec n hw hv (by omega)).use ?_
    rintro _ w ⟨a, rfl, hw⟩
    refine ⟨a, rfl, hw.absorb, (without_spec n hw hl (by omega)).use ?_⟩
    rintro _ w ⟨d, rfl, hw⟩
    refine ⟨d, rfl, ab2 hw, ret_rule hw fun w h => ChQ.mk hc (h.drop.swap.cons fun _ h => h.cons fun _ h => h.drop.drop)⟩
  refine Br.mk (fun k1 => ?_) (fun k1 => Br.mk (fun k2 => ?_) (fun k2 => ?_)) <;> rw [k1] at hc <;> simp only [if_true, Bool.false_eq_true, if_false] at hc
  · refine Br.mk (fun h => ?_) (fun h => Br.mk (fun h' => ?_) (fun h' => ?_))
    · rw [h] at hc; exact err_rule hw fun w h' => ChQ.err hc h'.drop
    · rw [h'] at hc; exact err_rule hw fun w h' => ChQ.err (by simpa using hc) h'.drop
    · rw [h, h'] at hc
      refine drw_ruleT hw fun w hw => ?_
      refine ⟨s, At.own selfS (by exact ⟨rfl, trivial⟩), t, At.own selfS (by exact ⟨rfl, trivial⟩), ?_⟩
      refine (without_spec n hw hv (by omega)).use ?_
      rintro _ w ⟨a, rfl, hw⟩
      refine ⟨a, rfl, hw.absorb, (with_spec n hw hl (by omega)).use ?_⟩
      rintro _ w ⟨d, rfl, hw⟩
      refine ⟨d, rfl, ab2 hw, ret_rule hw fun w h => ChQ.mk hc (h.drop.swap.cons fun _ h => h.cons fun _ h => h.drop.drop)⟩
  · rw [k2] at hc; simp only [if_true] at hc
    refine Br.mk (fun h => ?_) (fun h => ?_)
    · rw [h] at hc; exact err_rule hw fun w h' => ChQ.err (by simpa using hc) h'.drop
    · rw [h] at hc
      refine drw_ruleT hw fun w hw => ?_
      refine ⟨s, At.own selfS (by exact ⟨rfl, trivial⟩), t, At.own selfS (by exact ⟨rfl, trivial⟩), ?_⟩
      refine (with_spec n hw hv (by omega)).use ?_
      rintro _ w ⟨a, rfl, hw⟩
      refine ⟨a, rfl, hw.absorb, (without_spec n hw hl (by omega)).use ?_⟩
      rintro _ w ⟨d, rfl, hw⟩
      refine ⟨d, rfl, ab2 hw, ret_rule hw fun w h => ChQ.mk (by simpa using hc) (h.drop.swap.cons fun _ h => h.cons fun _ h => h.drop.drop)⟩
  · rw [k2] at hc; simp only [Bool.false_eq_true, if_false] at hc
    have one : ((s.len : Int) == 1) = (v.length == 1) := by
      rw [hlen]; cases h1 : (v.length == 1) <;> simp_all; omega
    refine Br.mk (fun h => Br.mk (fun h' => ?_) (fun h' => Br.mk (fun h3 => ?_) (fun h3 => ?_))) (fun h => Br.mk (fun h3 => ?_) (fun h3 => ?_))
    · exact err_rule hw fun w h'' => ChQ.err (by rw [hc, if_pos]; simp_all) h''.drop
    · simp_all
    · exact last (by rw [hc, if_neg]; simp_all)
    · refine ⟨s, At.own (eqS hw) (by exact ⟨rfl, trivial⟩), Br.mk (fun h5 => ?_) (fun h5 => ?_)⟩ <;> rw [one] at h5
      · exact err_rule hw fun w h'' => ChQ.err (by rw [hc, if_pos]; simp_all) h''.drop
      · exact last (by rw [hc, if_neg]; simp_all)
    · simp_all

end Go.Proofs.Ytjbpncdealpmhaa
