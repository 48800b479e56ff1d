/- QuorumChanges: the program's change, walked. Condition: slices of at most 2^63 numbers. -/
import Derived.Test.YtjbpncdealpmhaaQ15
namespace Go.Proofs.Ytjbpncdealpmhaa
open Go Go.VC

variable {R : Cx} {Hs Rest : List HP} {w : World} {s t u : Sl} {xs ys v l x A B : List Int} {kind n : Int}

theorem del_spec {c : Nat} {zs : List Int} [tk : TakeP c Hs (.cells [.int .i64 n].toArray 3 (0, 0)) Rest] (hw : Sat R (Own s 3 (ints zs) :: Hs) w) (hx : zs.length ≤ 1000) :
    Gets Try.prog 33 #[.slice s.a s.len s.cap, .func (.func 32) #[] #[.pointer (some ⟨c, 0, none⟩)]] w fun r w' => ∃ s' : Sl, r = .slice s'.a s'.len s'.cap ∧ Sat R (Own s' 3 (ints (withoutL n zs)) :: Hs) w' := by
  refine deleteFunc_spec (fun x => x == n) hw hx fun zs m w hw => ?_
  show Calls Try.prog 32 #[.int .i64 m, .pointer (some ⟨c, 0, none⟩)] w _
  have : Gets Try.prog 32 #[.int .i64 m, .pointer (some ⟨c, 0, none⟩)] w fun r w' => r = .bool (m == n) ∧ Sat R (Own s 3 (ints zs) :: Hs) w' := by
    apply call32
    exact NilP.mk rfl ⟨n, At.own (eqS hw) (by exact ⟨rfl, trivial⟩), rfl, hw⟩
  refine this.use ?_
  rintro _ w ⟨rfl, hw⟩
  exact ⟨rfl, hw⟩

/-- The blocks of a change. -/
abbrev Bs (d c b : Nat) (s t : Sl) (n : Int) (Hs : List HP) : List HP :=
  pts d (.cells [.slice none 0 0, .slice none 0 0].toArray 24 (0, 0)) :: pts c (.cells [.int .i64 n].toArray 3 (0, 0)) :: pts b (.cells [.slice s.a s.len s.cap, .slice t.a t.len t.cap].toArray 24 (0, 0)) :: Hs

/-- The new group, its lists not yet sorted. -/
abbrev Half (R : Cx) (B : List HP) (v l : List Int) (o : Nat) (w : World) : Prop := ∃ a e : Sl, Sat R (pts o (.cells [.slice a.a a.len a.cap, .slice e.a e.len e.cap].toArray 24 (0, 0)) :: Own e 3 (ints l) :: Own a 3 (ints v) :: tru :: B) w

theorem putSl {o i : Nat} {p q : Value} {a : Sl} {K : World → Prop} (hw : Sat R (pts o (.cells [p, q].toArray 24 (0, 0)) :: Hs) w) (hi : i < 2)
    (k : ∀ w', Sat R (pts o (.cells ([p, q].set i (.slice a.a a.len a.cap)).toArray 24 (0, 0)) :: Hs) w' → K w') :
    ∃ w' : World, ((Instr.storeAt 22 (.pointer ((some ⟨o, i, none⟩))) (.slice a.a a.len a.cap)).run Try.prog w = .ok () w') ∧ K w' :=
  store_rule hw (by kernel_rfl) rfl (by simp [Value.cells]; omega) fun w' h => k w' h

theorem change_spec (kind n : Int) (hw : Sat R Hs w) (hv : RoI R s v) (hl : RoI R t l) :
    Gets Try.prog 23 #[.agg #[.slice s.a s.len s.cap, .slice t.a t.len t.cap], .int .i64 kind, .int .i64 n] w (ChQ R Hs v l kind n) := by
  have hlen := RoI.len hv
  apply call23
  refine new_rule hw fun b w hw => new_rule hw fun c w hw => new_rule hw fun d w hw => ?_
  have hw : Sat R (Bs d c b s t n Hs) w := hw
  refine ⟨fun w => ChOk v l kind n ∧ Sat R (Bs d c b s t n Hs) w, ⟨s, t, At.own (eqS hw) (by exact ⟨rfl, rfl, trivial⟩), ?_⟩, ?_⟩
  · refine (right_spec hw hv hl).use ?_
    rintro _ w ⟨rfl, hw⟩
    refine ⟨_, rfl, Br.mk (fun h => ?_) (fun h => Br.mk (fun h1 => ?_) (fun h1 => Br.mk (fun h2 => ?_) (fun h2 => ⟨n, At.own (eqS hw) (by exact ⟨rfl, trivial⟩), Br.mk (fun h3 => ?_) (fun h3 => ⟨n, At.own (eqS hw) (by exact ⟨rfl, trivial⟩), Br.mk (fun h4 => ?_) (fun h4 => ?_)⟩)⟩)))⟩
    · exact err_rule hw fun w h' => ChQ.err (chG_arg (.inl (by simpa using h))) h'.drop.drop
    · exact err_rule hw fun w h' => ChQ.err (chG_arg (.inr (.inl (by simpa using h1)))) h'.drop.drop
    · exact err_rule hw fun w h' => ChQ.err (chG_arg (.inr (.inr (.inl (by simpa using h2))))) h'.drop.drop
    · exact err_rule hw fun w h' => ChQ.err (chG_arg (.inr (.inr (.inr (.inl (by simpa using h3)))))) h'.drop.drop
    · exact err_rule hw fun w h' => ChQ.err (chG_arg (.inr (.inr (.inr (.inr (by simpa using h4)))))) h'.drop.drop
    · simp only [decide_eq_false_iff_not, Bool.not_eq_false'] at h h1 h2 h3 h4
      exact ⟨⟨h, by omega, by omega, by omega, by omega⟩, hw⟩
  rintro z w ⟨ok, hw⟩
  have h15 := rises_len15 (right_rises ok.right)
  have h15' := rises_len15 (right_risesL ok.right)
  refine drw_ruleT hw fun w hw => ?_
  refine ⟨s, At.own selfS (by exact ⟨rfl, trivial⟩), n, At.own selfS (by exact ⟨rfl, trivial⟩), t, At.own selfS (by exact ⟨rfl, trivial⟩), n, At.own selfS (by exact ⟨rfl, trivial⟩), ?_⟩
  refine (among_spec hw).use ?_
  rintro _ w ⟨b1, rfl, hw⟩
  refine ⟨_, rfl, hw.absorb, (among_calls hv n w hw).mono ?_⟩
  rintro _ w ⟨rfl, hw⟩
  have hw := hw.absorb
  refine ⟨_, rfl, hw, (among_spec hw).use ?_⟩
  rintro _ w ⟨b2, rfl, hw⟩
  refine ⟨_, rfl, hw.absorb, (among_calls hl n w hw).mono ?_⟩
  rintro _ w ⟨rfl, hw⟩
  have hw := hw.absorb
  refine ⟨_, rfl, hw, ?_⟩
  refine ⟨fun out w => ∃ o, out = some ⟨o, 0, none⟩ ∧ Half R (Bs d c b s t n Hs) (withoutL n v) (withoutL n l) o w, ?_, ?_⟩
  · -- the end of each order
    have fin : ∀ {o : Nat} {a e : Sl} {w}, Sat R (pts o (.cells [.slice none 0 0, .slice none 0 0].toArray 24 (0, 0)) :: Own e 3 (ints (withoutL n l)) :: Own a 3 (ints (withoutL n v)) :: tru :: Bs d c b s t n Hs) w →
        ∃ w' : World, ((Instr.storeAt 24 (.pointer ((some ⟨o, 0, none⟩))) (.agg #[.slice a.a a.len a.cap, .slice e.a e.len e.cap])).run Try.prog w = .ok () w') ∧
          (∃ o', some (⟨o, 0, none⟩ : Addr) = some ⟨o', 0, none⟩ ∧ Half R (Bs d c b s t n Hs) (withoutL n v) (withoutL n l) o' w') := fun {o a e w} hw =>
      by
      refine store_rule hw (by kernel_rfl) rfl (by simp [Value.cells]) fun w' h => ?_
      exact ⟨o, rfl, a, e, h⟩
    have ab4 : ∀ {A B C D : HP} {Hs : List HP} {w}, Sat R (A :: B :: C :: D :: tru :: Hs) w → Sat R (tru :: Hs) w := fun h => ab3 (h.cons fun _ h => h.cons fun _ h => h.cons fun _ h => h.absorb)
    have lv : (withoutL n v).length ≤ 1000 := Nat.le_trans (List.length_filter_le _ _) (by omega)
    refine drw_rule hw fun w hw => ?_
    refine ⟨s, At.own selfS (by exact ⟨rfl, trivial⟩), t, At.own selfS (by exact ⟨rfl, trivial⟩), ?_, ?_⟩
    · refine (clone_spec hw hv (by omega)).use ?_
      rintro _ w ⟨a0, rfl, hw⟩
      refine ⟨a0, rfl, hw.absorb, ?_, ?_⟩
      · refine (del_spec hw (by omega)).use ?_
        rintro _ w ⟨a, rfl, hw⟩
        refine ⟨a, rfl, hw.absorb, ?_, ?_⟩
        · refine (clone_spec hw hl (by omega)).use ?_
          rintro _ w ⟨e0, rfl, hw⟩
          refine ⟨e0, rfl, ab2 hw, ?_, ?_⟩
          · refine (del_spec hw (by omega)).use ?_
            rintro _ w ⟨e, rfl, hw⟩
            refine ⟨e, rfl, ab2 hw, new_rule hw fun o w hw => ⟨ab3 hw, fin hw⟩⟩
          · refine new_rule hw fun o w hw => ⟨ab3 hw, ?_⟩
            refine (del_spec hw.swap (by omega)).use ?_
            rintro _ w ⟨e, rfl, hw⟩
            exact ⟨e, rfl, ab3 hw, fin hw.swap⟩
        · refine new_rule hw fun o w hw => ⟨ab2 hw, ?_⟩
          refine (clone_spec hw hl (by omega)).use ?_
          rintro _ w ⟨e0, rfl, hw⟩
          refine ⟨e0, rfl, ab3 hw, ?_⟩
          refine (del_spec hw (by omega)).use ?_
          rintro _ w ⟨e, rfl, hw⟩
          exact ⟨e, rfl, ab3 hw, fin hw.swap⟩
      · refine new_rule hw fun o w hw => ⟨ab2 hw, ?_⟩
        refine (del_spec hw.swap (by omega)).use ?_
        rintro _ w ⟨a, rfl, hw⟩
        refine ⟨a, rfl, ab2 hw, ?_⟩
        refine (clone_spec hw hl (by omega)).use ?_
        rintro _ w ⟨e0, rfl, hw⟩
        refine ⟨e0, rfl, ab3 hw, ?_⟩
        refine (del_spec hw (by omega)).use ?_
        rintro _ w ⟨e, rfl, hw⟩
        exact ⟨e, rfl, ab3 hw, fin ((hw.cons fun _ h => h.swap).swap)⟩
    · refine new_rule hw fun o w hw => ⟨hw.absorb, ?_⟩
      refine (clone_spec hw hv (by omega)).use ?_
      rintro _ w ⟨a0, rfl, hw⟩
      refine ⟨a0, rfl, ab2 hw, ?_⟩
      refine (del_spec hw (by omega)).use ?_
      rintro _ w ⟨a, rfl, hw⟩
      refine ⟨a, rfl, ab2 hw, ?_⟩
      refine (clone_spec hw hl (by omega)).use ?_
      rintro _ w ⟨e0, rfl, hw⟩
      refine ⟨e0, rfl, ab3 hw, ?_⟩
      refine (del_spec hw (by omega)).use ?_
      rintro _ w ⟨e, rfl, hw⟩
      exact ⟨e, rfl, ab3 hw, fin ((hw.cons fun _ h => h.swap).swap)⟩
  rintro z _ w ⟨o, rfl, a, e, hw⟩
  have lv : (withoutL n v).length ≤ 1000 := Nat.le_trans (List.length_filter_le _ _) (by omega)
  have ll : (withoutL n l).length ≤ 1000 := Nat.le_trans (List.length_filter_le _ _) (by omega)
  refine ⟨fun may w => ∃ va vb : List Int, va.length ≤ 1001 ∧ vb.length ≤ 1001 ∧ ChDone v l kind n may va vb ∧ Half R (Bs d c b s t n Hs) va vb o w, ?_, ?_⟩
  · have k0 := ok.k0
    have k1 := ok.k1
    -- the learners get it
    have push2 : ∀ {K : World → Prop}, (∀ w, Half R (Bs d c b s t n Hs) (withoutL n v) (withoutL n l ++ [n]) o w → K w) →
        NilP (some ⟨o, 0, none⟩) fun a_t64 =>
        ∃ t65 : Sl, (At (fun w' => w' = w) ⟨a_t64.block, a_t64.off + 1, none⟩ [.slice t65.a t65.len t65.cap]) ∧
        ∃ t66 : Int, (At (fun w' => w' = w) ⟨c, 0, none⟩ [.int .i64 t66]) ∧
        New (.cells #[.int .i64 t66] 3 (0, 0)) (fun b_t67 w_42 =>
        ∃ w_43 : World, ∃ t68 : Sl, ((Builtin.append_ #[22, 22] 22 #[.slice t65.a t65.len t65.cap, .slice ((some ⟨b_t67, 0, none⟩)) 1 1]).run Try.prog w_42 = .ok (.slice t68.a t68.len t68.cap) w_43) ∧
        NilP (some ⟨o, 0, none⟩) fun a_t69 =>
        ∃ w_44 : World, ((Instr.storeAt 22 (.pointer ((some ⟨a_t69.block, a_t69.off + 1, none⟩))) (.slice t68.a t68.len t68.cap)).run Try.prog w_43 = .ok () w_44) ∧
        K w_44) w := fun {K} k => by
      refine NilP.mk rfl ⟨e, At.own (eqS hw) (by exact ⟨rfl, trivial⟩), n, At.own (eqS hw) (by exact ⟨rfl, trivial⟩), ?_⟩
      refine pushI_rule el_int hw.swap (by omega) fun e' w hw => NilP.mk rfl ?_
      exact putSl hw.swap (by simp) fun w h => k w ⟨a, e', h⟩
    refine Br.mk (fun h1 => ?_) (fun h1 => Br.mk (fun h2 => ?_) (fun h2 => Br.mk (fun h3 => ?_) (fun h3 => ?_)))
    · obtain rfl : kind = 1 := by simpa using h1
      have dn := done1 ok
      refine Br.mk (fun hvn => ?_) (fun hvn => ?_)
      · refine push2 fun w h => ⟨_, _, by omega, by simp; omega, ?_, h⟩
        rw [hvn, Bool.true_and] at dn; exact dn
      · refine push2 fun w h => ⟨_, _, by omega, by simp; omega, ?_, h⟩
        rw [hvn, Bool.false_and] at dn; exact dn
    · obtain rfl : kind = 2 := by simpa using h2
      refine NilP.mk rfl ⟨a, by rw [add_off]; exact At.own (eqS hw) (by exact ⟨rfl, trivial⟩), n, At.own (eqS hw) (by exact ⟨rfl, trivial⟩), ?_⟩
      have hw2 : Sat R (Own a 3 (ints (withoutL n v)) :: pts o (.cells [.slice a.a a.len a.cap, .slice e.a e.len e.cap].toArray 24 (0, 0)) :: Own e 3 (ints (withoutL n l)) :: tru :: Bs d c b s t n Hs) w := (hw.cons fun _ h => h.swap).swap
      refine pushI_rule el_int hw2 (by omega) fun a' w hw => NilP.mk rfl ?_
      rw [add_off]
      exact putSl hw.swap (by simp) fun w h => ⟨_, _, by simp; omega, by omega, done2 ok, a', e, h.cons fun _ h => h.swap⟩
    · obtain rfl : kind = 3 := by simpa using h3
      have dn := done3 ok
      have hal := Own.len hw.drop.drop
      rw [List.length_map] at hal
      refine Br.mk (fun hln => ?_) (fun hln => Br.mk (fun hvn => ?_) (fun hvn => ?_))
      · rw [hln, Bool.true_or] at dn; exact ⟨_, _, by omega, by omega, dn, a, e, hw⟩
      · rw [hln, hvn, Bool.false_or, Bool.true_and] at dn
        refine NilP.mk rfl ⟨a, by rw [add_off]; exact At.own (eqS hw) (by exact ⟨rfl, trivial⟩), ?_⟩
        rw [hal]
        exact ⟨_, _, by omega, by omega, dn, a, e, hw⟩
      · rw [hln, hvn, Bool.false_or, Bool.false_and] at dn
        exact ⟨_, _, by omega, by omega, dn, a, e, hw⟩
    · simp at h1 h2 h3; omega
  rintro z may w ⟨va, vb, la, lb, dn, a, e, hw⟩
  refine Br.mk (fun hm => ?_) (fun hm => ?_)
  · simp only [Bool.not_eq_true'] at hm
    exact err_rule hw fun w h' => ChQ.err (dn.no hm) h'.drop.drop.drop.drop.drop.drop
  · simp only [Bool.not_eq_false'] at hm
    refine NilP.mk rfl ⟨a, by rw [add_off]; exact At.own (eqS hw) (by exact ⟨rfl, trivial⟩), ?_⟩
    have hw2 : Sat R (Own a 3 (ints va) :: pts o (.cells [.slice a.a a.len a.cap, .slice e.a e.len e.cap].toArray 24 (0, 0)) :: Own e 3 (ints vb) :: tru :: Bs d c b s t n Hs) w := (hw.cons fun _ h => h.swap).swap
    refine (sort_spec hw2 (by omega)).use ?_
    rintro _ w ⟨rfl, hw⟩
    refine ⟨rfl, NilP.mk rfl ⟨e, At.own (eqS hw) (by exact ⟨rfl, trivial⟩), ?_⟩⟩
    have hw3 : Sat R (Own e 3 (ints vb) :: pts o (.cells [.slice a.a a.len a.cap, .slice e.a e.len e.cap].toArray 24 (0, 0)) :: Own a 3 (ints (sortL va)) :: tru :: Bs d c b s t n Hs) w := by
      have h1 := hw.take (Own e 3 (ints vb))
      exact h1.cons fun _ h => h.swap
    refine (sort_spec hw3 (by omega)).use ?_
    rintro _ w ⟨rfl, hw⟩
    refine ⟨rfl, NilP.mk rfl ⟨a, e, At.own (eqS hw) (by exact ⟨rfl, rfl, trivial⟩), ?_⟩⟩
    refine ret_rule hw fun w h => ChQ.mk (dn.yes hm) ?_
    have h1 := h.drop.take (Own a 3 (ints (sortL va)))
    exact h1.cons fun _ h => h.cons fun _ h => h.drop.drop.drop.drop

end Go.Proofs.Ytjbpncdealpmhaa
