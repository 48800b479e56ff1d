/- A flight, plain: each step of the program's goes with the document's; what holds of a flight holds on. Condition: none. -/
import Derived.Test.YtaacfjdknlglhaaGreatDoorB5
namespace Go.Proofs.YtaacfjdknlglhaaGreatDoor
set_option linter.unusedVariables false
open Go Go.VC

/-! ### Entries -/
section
variable {β : Type}
theorem getM_cons (k : Int) (e : Int × β) (l : List (Int × β)) : getM k (e :: l) = if k = e.1 then some e.2 else getM k l := by
  show (if k == e.1 then some e.2 else getM k l) = _
  by_cases h : k = e.1
  · rw [if_pos h, if_pos (beq_iff_eq.2 h)]
  · rw [if_neg h, if_neg (fun h' => h (beq_iff_eq.1 h'))]
theorem getM_mem {k : Int} : ∀ {l : List (Int × β)}, (getM k l).isSome = true ↔ k ∈ l.map (·.1)
  | [] => by simp [getM]
  | e :: l => by
    rw [getM_cons, List.map_cons, List.mem_cons]
    split
    · rename_i h; simp [h]
    · rename_i h; rw [getM_mem (l := l)]; simp [h]
theorem getM_no {k : Int} {l : List (Int × β)} : getM k l = none ↔ k ∉ l.map (·.1) := by
  rw [← getM_mem, Option.isSome_iff_ne_none]; simp
theorem getM_app2 (k : Int) : ∀ (a b : List (Int × β)), getM k (a ++ b) = if k ∈ a.map (·.1) then getM k a else getM k b
  | [], b => by simp
  | e :: a, b => by
    show getM k (e :: (a ++ b)) = _
    rw [getM_cons, getM_cons, getM_app2 k a b, List.map_cons]
    by_cases h : k = e.1
    · rw [if_pos h, if_pos (by rw [h]; exact List.mem_cons_self), if_pos h]
    · rw [if_neg h, if_neg h]
      by_cases h2 : k ∈ a.map (·.1)
      · rw [if_pos h2, if_pos (List.mem_cons_of_mem _ h2)]
      · rw [if_neg h2, if_neg]
        intro h3
        rcases List.mem_cons.1 h3 with h3 | h3
        · exact h h3
        · exact h2 h3
theorem setM_keys {k : Int} {v : β} : ∀ {l : List (Int × β)}, (setM k v l).map (·.1) = l.map (·.1)
  | [] => rfl
  | e :: l => by
    show List.map _ (if k == e.1 then (e.1, v) :: l else e :: setM k v l) = _
    split
    · rfl
    · rw [List.map_cons, setM_keys]; rfl
theorem getM_setM {k k' : Int} {v : β} : ∀ {l : List (Int × β)}, (getM k l).isSome = true → getM k' (setM k v l) = if k' = k then some v else getM k' l
  | [], h => by cases h
  | e :: l, h => by
    show getM k' (if k == e.1 then (e.1, v) :: l else e :: setM k v l) = _
    rw [getM_cons] at h
    by_cases h1 : k = e.1
    · rw [if_pos (beq_iff_eq.2 h1), getM_cons, getM_cons, h1]
      split <;> rfl
    · rw [if_neg h1] at h
      rw [if_neg (fun h' => h1 (beq_iff_eq.1 h')), getM_cons, getM_cons, getM_setM h]
      by_cases h2 : k' = e.1
      · rw [if_pos h2, if_pos h2, if_neg (fun h3 => h1 (h3.symm.trans h2))]
      · rw [if_neg h2, if_neg h2]
theorem getM_putM (k k' : Int) (v : β) (l : List (Int × β)) : getM k' (putM k v l) = if k' = k then some v else getM k' l := by
  unfold putM
  split
  · rename_i h; exact getM_setM h
  · rename_i h
    rw [getM_app2]
    have hk : getM k l = none := by cases hg : getM k l with | none => rfl | some x => rw [hg] at h; simp at h
    by_cases h1 : k' = k
    · rw [if_pos h1, if_neg (by rw [h1]; exact getM_no.1 hk), getM_cons, if_pos h1]
    · rw [if_neg h1]
      by_cases h2 : k' ∈ l.map (·.1)
      · rw [if_pos h2]
      · rw [if_neg h2, getM_cons, if_neg h1, getM_no.2 h2]; rfl
theorem putM_nodup {k : Int} {v : β} {l : List (Int × β)} (h : (l.map (·.1)).Nodup) : ((putM k v l).map (·.1)).Nodup := by
  unfold putM
  split
  · rw [setM_keys]; exact h
  · rename_i hk
    rw [List.map_append, List.nodup_append]
    refine ⟨h, by simp, fun a ha b hb => ?_⟩
    rw [List.map_cons, List.map_nil, List.mem_singleton] at hb
    rintro rfl
    rw [hb] at ha
    exact hk (getM_mem.2 ha)
theorem delM_sub (k : Int) : ∀ l : List (Int × β), (delM k l).Sublist l
  | [] => List.Sublist.refl _
  | e :: l => by
    show (if k == e.1 then l else e :: delM k l).Sublist _
    split
    · exact List.sublist_cons_self _ _
    · exact (delM_sub k l).cons_cons e
theorem delM_nodup {k : Int} {l : List (Int × β)} (h : (l.map (·.1)).Nodup) : ((delM k l).map (·.1)).Nodup := h.sublist ((delM_sub k l).map _)
theorem getM_delM {k k' : Int} : ∀ {l : List (Int × β)}, (l.map (·.1)).Nodup → getM k' (delM k l) = if k' = k then none else getM k' l
  | [], _ => by simp [getM, delM]
  | e :: l, h => by
    rw [List.map_cons, List.nodup_cons] at h
    show getM k' (if k == e.1 then l else e :: delM k l) = _
    by_cases h1 : k = e.1
    · rw [if_pos (beq_iff_eq.2 h1), getM_cons]
      by_cases h2 : k' = k
      · rw [if_pos h2, getM_no]; rw [h2, h1]; exact h.1
      · rw [if_neg h2, if_neg (fun h3 => h2 (h3.trans h1.symm))]
    · rw [if_neg (fun h' => h1 (beq_iff_eq.1 h')), getM_cons, getM_cons, getM_delM h.2]
      by_cases h2 : k' = e.1
      · rw [if_pos h2, if_pos h2, if_neg (fun h3 => h1 (h3.symm.trans h2))]
      · rw [if_neg h2, if_neg h2]
theorem delAll_get {l : List Int} : ∀ {own : List (Int × Int)}, (own.map (·.1)).Nodup → ((delAll l own).map (·.1)).Nodup ∧ ∀ n, getM n (delAll l own) = if n ∈ l then none else getM n own := by
  induction l with
  | nil => exact fun h => ⟨h, fun n => by simp [delAll]⟩
  | cons x l ih =>
    intro own h
    obtain ⟨h1, h2⟩ := ih (own := delM x own) (delM_nodup h)
    refine ⟨h1, fun n => ?_⟩
    have e : delAll (x :: l) own = delAll l (delM x own) := rfl
    rw [e, h2, getM_delM h]
    by_cases hn : n ∈ l
    · rw [if_pos hn, if_pos (List.mem_cons_of_mem _ hn)]
    · rw [if_neg hn]
      by_cases hx : n = x
      · rw [if_pos hx, if_pos (by rw [hx]; exact List.mem_cons_self)]
      · rw [if_neg hx, if_neg]
        intro h3
        rcases List.mem_cons.1 h3 with h3 | h3
        · exact hx h3
        · exact hn h3
theorem putAll_get {o : Int} {l : List Int} : ∀ {own : List (Int × Int)}, (own.map (·.1)).Nodup → ((putAll o l own).map (·.1)).Nodup ∧ ∀ n, getM n (putAll o l own) = if n ∈ l then some o else getM n own := by
  induction l with
  | nil => exact fun h => ⟨h, fun n => by simp [putAll]⟩
  | cons x l ih =>
    intro own h
    obtain ⟨h1, h2⟩ := ih (own := putM x o own) (putM_nodup h)
    refine ⟨h1, fun n => ?_⟩
    have e : putAll o (x :: l) own = putAll o l (putM x o own) := rfl
    rw [e, h2, getM_putM]
    by_cases hn : n ∈ l
    · rw [if_pos hn, if_pos (List.mem_cons_of_mem _ hn)]
    · rw [if_neg hn]
      by_cases hx : n = x
      · rw [if_pos hx, if_pos (by rw [hx]; exact List.mem_cons_self)]
      · rw [if_neg hx, if_neg]
        intro h3
        rcases List.mem_cons.1 h3 with h3 | h3
        · exact hx h3
        · exact hn h3
end
theorem mem_insS {n x : Int} : ∀ {l : List Int}, x ∈ insS n l ↔ x = n ∨ x ∈ l
  | [] => by simp [insS]
  | y :: l => by
    unfold insS
    split
    · rw [List.mem_cons, mem_insS, List.mem_cons]
      constructor
      · rintro (h | h | h)
        · exact .inr (.inl h)
        · exact .inl h
        · exact .inr (.inr h)
      · rintro (h | h | h)
        · exact .inr (.inl h)
        · exact .inl h
        · exact .inr (.inr h)
    · rw [List.mem_cons]
theorem rise_iff {l : List Int} : Rise l ↔ l.Pairwise (· < ·) := by
  rw [List.pairwise_iff_getElem]
  exact ⟨fun h i j hi hj hij => h i j hj hij, fun h i j hj hij => h i j (by omega) hj hij⟩
theorem insS_pw {n : Int} : ∀ {l : List Int}, l.Pairwise (· < ·) → n ∉ l → (insS n l).Pairwise (· < ·)
  | [], _, _ => by simp [insS]
  | x :: l, hp, hn => by
    obtain ⟨h1, h2⟩ := List.pairwise_cons.1 hp
    have hx : n ≠ x := fun e => hn (by rw [e]; exact List.mem_cons_self)
    unfold insS
    split
    · refine List.pairwise_cons.2 ⟨fun y hy => ?_, insS_pw h2 fun h => hn (List.mem_cons_of_mem _ h)⟩
      rcases mem_insS.1 hy with rfl | hy
      · assumption
      · exact h1 y hy
    · refine List.pairwise_cons.2 ⟨fun y hy => ?_, hp⟩
      rcases List.mem_cons.1 hy with rfl | hy
      · omega
      · have := h1 y hy; omega

/-! ### What is sold -/
theorem fromN_add {sold : List Int} {c : Nat} {m : Int} (hc : c < sold.length) : ∀ (t k : Nat), k + t = sold.length → fromN (sold.set c (sold.getD c 0 + m)) k = fromN sold k + (if k ≤ c then m else 0)
  | 0, k, h => by
    rw [fromN_end (by rw [List.length_set]; omega), fromN_end (by omega), if_neg (by omega)]; rfl
  | t + 1, k, h => by
    have ih := fromN_add (m := m) hc t (k + 1) (by omega)
    rw [fromN_step (k := k) (by rw [List.length_set]; omega), fromN_step (sold := sold) (k := k) (by omega), ih, List.getElem_set]
    by_cases e : c = k
    · subst e
      rw [if_pos rfl, if_neg (by omega), if_pos (Nat.le_refl _), getD_lt hc]; omega
    · rw [if_neg e]
      by_cases h2 : k ≤ c
      · rw [if_pos (by omega), if_pos h2]; omega
      · rw [if_neg (by omega), if_neg h2]; omega
def totL : List Hold → Int
  | [] => 0
  | h :: L => h.many + totL L
theorem totL_app : ∀ A B : List Hold, totL (A ++ B) = totL A + totL B
  | [], B => by simp [totL]
  | h :: A, B => by simp only [List.cons_append, totL, totL_app A B]; omega
theorem soldL_nil (n : Nat) : soldL n [] = List.replicate n 0 := by
  apply List.ext_getElem
  · simp [soldL]
  · intro i h1 h2; rw [soldL_get]; simp [cntL]
theorem fromN_zero (n : Nat) : ∀ t k : Nat, k + t = n → fromN (List.replicate n (0 : Int)) k = 0
  | 0, k, h => fromN_end (by rw [List.length_replicate]; omega)
  | t + 1, k, h => by rw [fromN_step (by rw [List.length_replicate]; omega), fromN_zero n t (k + 1) (by omega)]; simp
theorem totL_from {n : Nat} : ∀ {L : List Hold}, (∀ h ∈ L, 0 ≤ h.cls ∧ h.cls < n) → fromN (soldL n L) 0 = totL L
  | [], _ => by rw [soldL_nil, fromN_zero n n 0 (by omega)]; rfl
  | h :: L, hc => by
    have h0 := hc h List.mem_cons_self
    have ih := totL_from fun x hx => hc x (List.mem_cons_of_mem _ hx)
    rw [← soldL_put (List.Perm.refl (h :: L)) h0.1 h0.2, fromN_add (by rw [soldL_len]; omega) n 0 (by rw [soldL_len]; omega), if_pos (by omega), ih]
    show _ = h.many + totL L
    omega
theorem cntL_nn {k : Int} : ∀ {L : List Hold}, (∀ h ∈ L, 1 ≤ h.many) → 0 ≤ cntL k L
  | [], _ => Int.le_refl _
  | h :: L, hm => by
    have ih := cntL_nn (k := k) fun x hx => hm x (List.mem_cons_of_mem _ hx)
    have h1 := hm h List.mem_cons_self
    rw [cntL_cons]
    split <;> omega
theorem nest_le {lim a b : List Int} (h : nestOk lim a = true) (hl : b.length = a.length) (hb : ∀ k, k < lim.length → 0 ≤ b.getD k 0 ∧ b.getD k 0 ≤ a.getD k 0) : nestOk lim b = true := by
  obtain ⟨h1, h2, h3⟩ := nestOk_iff.1 h
  refine nestOk_iff.2 ⟨h1, hl.trans h2, fun k hk => ⟨⟨(hb k hk).1, Int.le_trans (hb k hk).2 (h3 k hk).1.2⟩, ?_⟩⟩
  refine Int.le_trans ?_ (h3 k hk).2
  have key : ∀ t k : Nat, k + t = lim.length → fromN b k ≤ fromN a k := by
    intro t
    induction t with
    | zero => intro k hk; rw [fromN_end (by omega), fromN_end (by omega)]; exact Int.le_refl _
    | succ t ih =>
      intro k hk
      rw [fromN_step (sold := b) (by omega), fromN_step (sold := a) (by omega)]
      have e1 := ih (k + 1) (by omega)
      have e2 := (hb k (by omega)).2
      rw [getD_lt (by omega), getD_lt (by omega)] at e2
      omega
  exact key (lim.length - k) k (by omega)
theorem nest_zero {lim : List Int} (h : limOk lim = true) : nestOk lim (List.replicate lim.length 0) = true := by
  refine nestOk_iff.2 ⟨h, by simp, fun k hk => ?_⟩
  rw [fromN_zero lim.length (lim.length - k) k (by omega), List.getD_eq_getElem?_getD]
  have := (limOk_iff.1 h).2 k hk
  rw [getD_lt hk]
  simp [hk]
  omega
theorem fromN_ge {a : List Int} (h : ∀ k, k < a.length → 0 ≤ a.getD k 0) : ∀ t k : Nat, k + t = a.length → 0 ≤ fromN a k
  | 0, k, e => by rw [fromN_end (by omega)]; exact Int.le_refl _
  | t + 1, k, e => by
    have h1 := fromN_ge h t (k + 1) (by omega)
    have h2 := h k (by omega)
    rw [getD_lt (by omega)] at h2
    rw [fromN_step (by omega)]; omega
theorem nest_sell {lim sold : List Int} {c many : Int} (h : (sellT lim sold c many).2 = 0) :
    (sellT lim sold c many).1 = sold.set c.toNat (sold.getD c.toNat 0 + many) ∧ nestOk lim (sellT lim sold c many).1 = true ∧ 0 ≤ c ∧ c < lim.length ∧ 1 ≤ many := by
  unfold sellT at h ⊢
  split at h
  · cases h
  split at h
  · cases h
  rename_i h1 h2
  rw [if_neg h1, if_neg h2]
  have h3 : (leftT lim sold c).2 = 0 := Classical.byContradiction fun e => h1 (.inl e)
  obtain ⟨hn, hc0, hc1⟩ := left_ok h3
  have hl : (leftT lim sold c).1 = mnF (roomF lim sold) (c.toNat + 1) := by unfold leftT; rw [if_pos ⟨hn, hc0, hc1⟩]
  rw [hl] at h2
  obtain ⟨i1, i2, i3⟩ := nestOk_iff.1 hn
  have hm := mnF_is (roomF lim sold) (c.toNat + 1)
  suffices key : nestOk lim (sold.set c.toNat (sold.getD c.toNat 0 + many)) = true from ⟨rfl, key, hc0, hc1, by omega⟩
  refine nestOk_iff.2 ⟨i1, by rw [List.length_set]; exact i2, fun k hk => ?_⟩
  have hf := fromN_add (sold := sold) (c := c.toNat) (m := many) (by omega) (lim.length - k) k (by omega)
  have hk3 := i3 k hk
  have hle : fromN (sold.set c.toNat (sold.getD c.toNat 0 + many)) k ≤ lim.getD k 0 := by
    rw [hf]
    split
    · have h5 : mnF (roomF lim sold) (c.toNat + 1) ≤ lim.getD k 0 - fromN sold k := hm.2.1 k (by omega) (by omega)
      omega
    · omega
  refine ⟨?_, hle⟩
  have hnn : ∀ j, j < (sold.set c.toNat (sold.getD c.toNat 0 + many)).length → 0 ≤ (sold.set c.toNat (sold.getD c.toNat 0 + many)).getD j 0 := fun j hj => by
    rw [List.length_set] at hj
    rw [getD_lt (by rw [List.length_set]; exact hj), List.getElem_set]
    have hj3 := i3 j (by omega)
    rw [getD_lt hj] at hj3
    split
    · rename_i e
      have h9 := i3 c.toNat (by omega)
      omega
    · omega
  have h0 := hnn k (by rw [List.length_set]; omega)
  refine ⟨h0, ?_⟩
  have hs := fromN_step (sold := sold.set c.toNat (sold.getD c.toNat 0 + many)) (k := k) (by rw [List.length_set]; omega)
  have hg := fromN_ge hnn (lim.length - (k + 1)) (k + 1) (by rw [List.length_set]; omega)
  have hlk := ((limOk_iff.1 i1).2 k hk).1.2
  rw [getD_lt (by rw [List.length_set]; omega)]
  rw [getD_lt hk] at hle
  omega

/-! ### Steps -/
variable {f : PF} {r : RF}
theorem mem_taken {L : List Hold} {x : Int} : x ∈ takenL L ↔ ∃ h ∈ L, x ∈ h.seats := List.mem_flatMap

theorem tie_take (t : Tie f r) (g : Good r) (o c m : Int) : (takeF f o c m).2 = (rtakeF r o c m).2 ∧ Tie (takeF f o c m).1 (rtakeF r o c m).1 ∧ Good (rtakeF r o c m).1 := by
  unfold takeF rtakeF
  rw [t.get g.rise, t.lims, t.sold]
  split
  · exact ⟨rfl, t, g⟩
  rename_i ho
  split
  · exact ⟨rfl, t, g⟩
  rename_i hn
  have hno : getO o r.L = none := by cases e : getO o r.L with | none => rfl | some x => rw [e] at hn; simp at hn
  split
  · rename_i hs
    obtain ⟨e1, e2, c0, c1, hm⟩ := nest_sell hs
    have hsold : (sellT r.lims r.sold c m).1 = soldL r.lims.length (insH ⟨o, c, m, []⟩ r.L) := by
      rw [e1]; exact soldL_put (h := ⟨o, c, m, []⟩) (insH_perm _ _) c0 c1
    refine ⟨rfl, ⟨t.num, t.rows, t.grps, rfl, hsold, ?_, ?_, ?_, t.nod⟩, ⟨g.num, g.lay, ?_, g.l0, insH_rise g.rise hno, ?_, ?_⟩⟩
    · show ((f.hs ++ [(o, (⟨o, c, m, []⟩ : Hold))]).map (·.2)).Perm _
      rw [List.map_append]
      refine (List.perm_append_comm.trans ?_).trans (insH_perm _ _).symm
      exact t.hs.cons _
    · intro e he
      rcases List.mem_append.1 he with he | he
      · exact t.key e he
      · rw [List.mem_singleton.1 he]
    · intro n o'
      show getM n f.own = some o' ↔ _
      rw [t.own]
      constructor
      · rintro ⟨h, hh, e, hs⟩; exact ⟨h, (insH_perm _ _).mem_iff.2 (List.mem_cons_of_mem _ hh), e, hs⟩
      · rintro ⟨h, hh, e, hs⟩
        rcases List.mem_cons.1 ((insH_perm _ _).mem_iff.1 hh) with rfl | hh
        · cases hs
        · exact ⟨h, hh, e, hs⟩
    · show nestOk r.lims (soldL r.lims.length (insH ⟨o, c, m, []⟩ r.L)) = true
      rw [← hsold]; exact e2
    · intro h hh
      rcases List.mem_cons.1 ((insH_perm _ _).mem_iff.1 hh) with rfl | hh
      · exact ⟨by dsimp only; omega, ⟨c0, c1⟩, hm, fun i j hj => by simp at hj, by simp; omega, fun x hx => by cases hx⟩
      · exact g.each h hh
    · show (insH ⟨o, c, m, []⟩ r.L).Pairwise _
      refine ((insH_perm _ _).pairwise_iff fun {a b} h x hx hx' => h x hx' hx).2 (List.pairwise_cons.2 ⟨fun y _ x hx => (by cases hx), g.apart⟩)
  · exact ⟨rfl, t, g⟩

theorem soldL_mid {n : Nat} {A C : List Hold} {h h' : Hold} (e1 : h'.cls = h.cls) (e2 : h'.many = h.many) : soldL n (A ++ h' :: C) = soldL n (A ++ h :: C) := by
  unfold soldL
  refine List.map_congr_left fun k _ => ?_
  rw [cntL_app, cntL_app]
  simp only [cntL, e1, e2]

theorem apart_mid {A C : List Hold} {h : Hold} (g : (A ++ h :: C).Pairwise fun a b => ∀ x ∈ a.seats, x ∉ b.seats) : (∀ y ∈ A ++ C, ∀ x ∈ h.seats, x ∉ y.seats) ∧ (A ++ C).Pairwise fun a b => ∀ x ∈ a.seats, x ∉ b.seats := by
  have p : (A ++ h :: C).Perm (h :: (A ++ C)) := List.perm_middle
  have := (p.pairwise_iff fun {a b} h x hx hx' => h x hx' hx).1 g
  exact List.pairwise_cons.1 this

theorem mem_mid {A C : List Hold} {h y : Hold} (hy : y ∈ A ++ C) : y ∈ A ++ h :: C := by
  rw [List.mem_append] at hy
  rw [List.mem_append, List.mem_cons]
  rcases hy with hy | hy
  · exact .inl hy
  · exact .inr (.inr hy)
theorem good_set {A C : List Hold} {h h' : Hold} (g : Good r) (hL : r.L = A ++ h :: C) (e1 : h'.owner = h.owner) (e2 : h'.cls = h.cls) (e3 : h'.many = h.many) (hr : Rise h'.seats) (hf : (h'.seats.length : Int) ≤ h.many)
    (hs : ∀ x ∈ h'.seats, x ∈ h.seats ∨ (x ∉ takenL r.L ∧ 0 ≤ x ∧ x < layN r.rows r.grps)) : Good { r with L := A ++ h' :: C } := by
  have hh := g.each h (by rw [hL]; simp)
  have hap := g.apart
  rw [hL] at hap
  obtain ⟨a1, a2⟩ := apart_mid hap
  refine ⟨g.num, g.lay, ?_, g.l0, ?_, ?_, ?_⟩
  · show nestOk r.lims (soldL r.lims.length (A ++ h' :: C)) = true
    rw [soldL_mid e2 e3, ← hL]; exact g.nest
  · have := g.rise; rw [hL] at this; exact owR_mid e1 this
  · intro x hx
    show HoldOk r.lims.length (layN r.rows r.grps) x
    have hx : x ∈ A ++ h' :: C := hx
    rw [List.mem_append, List.mem_cons] at hx
    rcases hx with hx | rfl | hx
    · exact g.each x (by rw [hL]; simp [hx])
    · exact ⟨by rw [e1]; exact hh.owner, by rw [e2]; exact hh.cls, by rw [e3]; exact hh.many, hr, by rw [e3]; exact hf, fun y hy => by
        rcases hs y hy with hy | hy
        · exact hh.seats y hy
        · exact hy.2⟩
    · exact g.each x (by rw [hL]; simp [hx])
  · show (A ++ h' :: C).Pairwise _
    refine ((List.perm_middle (a := h') (l₁ := A) (l₂ := C)).pairwise_iff fun {a b} h x hx hx' => h x hx' hx).2 (List.pairwise_cons.2 ⟨fun y hy x hx => ?_, a2⟩)
    rcases hs x hx with hx | hx
    · exact a1 y hy x hx
    · exact fun hxy => hx.1 (mem_taken.2 ⟨y, by rw [hL]; exact mem_mid hy, hxy⟩)

theorem tie_set {A C : List Hold} {h h' : Hold} {own' : List (Int × Int)} (t : Tie f r) (g : Good r) (hL : r.L = A ++ h :: C) (hA : getO h.owner A = none) (e1 : h'.owner = h.owner) (e2 : h'.cls = h.cls) (e3 : h'.many = h.many)
    (hs : ∀ x ∈ h'.seats, x ∈ h.seats ∨ x ∉ takenL r.L) (hn : (own'.map (·.1)).Nodup) (ho : ∀ n, getM n own' = if n ∈ h'.seats then some h.owner else if n ∈ h.seats then none else getM n f.own) :
    Tie { f with hs := setM h.owner h' f.hs, own := own' } { r with L := A ++ h' :: C } := by
  have hap := g.apart
  rw [hL] at hap
  obtain ⟨a1, a2⟩ := apart_mid hap
  have hg : getM h.owner f.hs = some h := by rw [t.get g.rise, hL]; exact getO_app rfl hA
  obtain ⟨a, c, hsp, hna⟩ := getM_split hg
  have hset : setM h.owner h' f.hs = a ++ (h.owner, h') :: c := by rw [hsp]; exact setM_app hna (int_rfl _)
  refine ⟨t.num, t.rows, t.grps, t.lims, ?_, ?_, ?_, ?_, hn⟩
  · show f.sold = soldL r.lims.length (A ++ h' :: C)
    rw [soldL_mid e2 e3, ← hL]; exact t.sold
  · show ((setM h.owner h' f.hs).map (·.2)).Perm (A ++ h' :: C)
    have p := t.hs
    rw [hsp, hL, List.map_append, List.map_cons] at p
    rw [hset, List.map_append, List.map_cons]
    have p2 := (List.perm_middle.symm.trans p).trans List.perm_middle
    exact (List.perm_middle.trans (p2.cons_inv.cons h')).trans List.perm_middle.symm
  · show ∀ e ∈ setM h.owner h' f.hs, e.2.owner = e.1
    rw [hset]
    intro e he
    rw [List.mem_append, List.mem_cons] at he
    rcases he with he | rfl | he
    · exact t.key e (by rw [hsp]; simp [he])
    · exact e1
    · exact t.key e (by rw [hsp]; simp [he])
  · intro n o
    show getM n own' = some o ↔ ∃ x ∈ A ++ h' :: C, x.owner = o ∧ n ∈ x.seats
    rw [ho]
    constructor
    · intro e
      split at e
      · rename_i hn'; cases e
        exact ⟨h', by simp, e1, hn'⟩
      · split at e
        · cases e
        · rename_i h1 h2
          obtain ⟨x, hx, hxo, hxn⟩ := (t.own n o).1 e
          rw [hL, List.mem_append, List.mem_cons] at hx
          rcases hx with hx | rfl | hx
          · exact ⟨x, by simp [hx], hxo, hxn⟩
          · exact absurd hxn h2
          · exact ⟨x, by simp [hx], hxo, hxn⟩
    · rintro ⟨x, hx, hxo, hxn⟩
      rw [List.mem_append, List.mem_cons] at hx
      have other : x ∈ A ++ C → (if n ∈ h'.seats then some h.owner else if n ∈ h.seats then none else getM n f.own) = some o := fun hx => by
        have hxL : x ∈ r.L := by rw [hL]; exact mem_mid hx
        have n1 : n ∉ h.seats := fun hh => a1 x hx n hh hxn
        have n2 : n ∉ h'.seats := fun hh => by
          rcases hs n hh with hh | hh
          · exact n1 hh
          · exact hh (mem_taken.2 ⟨x, hxL, hxn⟩)
        rw [if_neg n2, if_neg n1]
        exact (t.own n o).2 ⟨x, hxL, hxo, hxn⟩
      rcases hx with hx | rfl | hx
      · exact other (by simp [hx])
      · rw [if_pos hxn, ← hxo, e1]
      · exact other (by simp [hx])

theorem tie_seat (t : Tie f r) (g : Good r) (o : Int) (lab : ByteArray) (hf : ∀ k, findT r.rows r.grps lab = (k, 0) → 0 ≤ k ∧ k < layN r.rows r.grps) :
    (seatF f o lab).2 = (rseatF r o lab).2 ∧ Tie (seatF f o lab).1 (rseatF r o lab).1 ∧ Good (rseatF r o lab).1 := by
  unfold seatF rseatF
  rw [t.get g.rise]
  cases hg : getO o r.L with
  | none => exact ⟨rfl, t, g⟩
  | some h =>
    obtain ⟨A, C, hL, hA, rfl⟩ := getO_split hg
    have hh := g.each h (by rw [hL]; simp)
    dsimp only
    rw [show findT f.rows f.grps lab = findT r.rows r.grps lab by rw [t.rows, t.grps]]
    split
    · exact ⟨rfl, t, g⟩
    rename_i h2
    split
    · exact ⟨rfl, t, g⟩
    rename_i h3
    have hfe : (findT r.rows r.grps lab).2 = 0 := Classical.byContradiction h2
    have hb := hf (findT r.rows r.grps lab).1 (by rw [← hfe])
    by_cases h4 : (findT r.rows r.grps lab).1 ∈ takenL r.L
    · rw [if_pos ((t.taken _).2 h4), if_pos h4]; exact ⟨rfl, t, g⟩
    · rw [if_neg (fun e => h4 ((t.taken _).1 e)), if_neg h4]
      generalize (findT r.rows r.grps lab).1 = n at *
      have hset : setO h.owner (h.put n) r.L = A ++ h.put n :: C := by rw [hL]; exact setO_app rfl hA
      rw [hset]
      have hnh : n ∉ h.seats := fun e => h4 (mem_taken.2 ⟨h, by rw [hL]; simp, e⟩)
      have hs : ∀ x ∈ (h.put n).seats, x ∈ h.seats ∨ (x ∉ takenL r.L ∧ 0 ≤ x ∧ x < layN r.rows r.grps) := fun x hx => by
        rcases mem_insS.1 hx with rfl | hx
        · exact .inr ⟨h4, hb⟩
        · exact .inl hx
      refine ⟨rfl, tie_set (h' := h.put n) t g hL hA rfl rfl rfl (fun x hx => (hs x hx).imp id (·.1)) (putM_nodup t.nod) fun x => ?_, good_set (h' := h.put n) g hL rfl rfl rfl ?_ ?_ hs⟩
      · rw [getM_putM]
        show _ = if x ∈ insS n h.seats then some h.owner else _
        by_cases hx : x = n
        · rw [if_pos hx, if_pos (mem_insS.2 (.inl hx))]
        · rw [if_neg hx]
          by_cases hx2 : x ∈ h.seats
          · rw [if_pos (mem_insS.2 (.inr hx2))]
            exact (t.own x h.owner).2 ⟨h, by rw [hL]; simp, rfl, hx2⟩
          · rw [if_neg (fun e => (mem_insS.1 e).elim hx hx2), if_neg hx2]
      · exact rise_iff.2 (insS_pw (rise_iff.1 hh.rise) hnh)
      · show ((insS n h.seats).length : Int) ≤ _
        rw [insS_len]; omega

theorem tie_unseat (t : Tie f r) (g : Good r) (o : Int) (lab : ByteArray) :
    (unseatF f o lab).2 = (runseatF r o lab).2 ∧ Tie (unseatF f o lab).1 (runseatF r o lab).1 ∧ Good (runseatF r o lab).1 := by
  unfold unseatF runseatF
  rw [t.get g.rise]
  cases hg : getO o r.L with
  | none => exact ⟨rfl, t, g⟩
  | some h =>
    obtain ⟨A, C, hL, hA, rfl⟩ := getO_split hg
    have hh := g.each h (by rw [hL]; simp)
    dsimp only
    rw [show findT f.rows f.grps lab = findT r.rows r.grps lab by rw [t.rows, t.grps]]
    split
    · exact ⟨rfl, t, g⟩
    generalize (findT r.rows r.grps lab).1 = n at *
    have hiff : (getM n f.own).getD 0 ≠ h.owner ↔ ¬ n ∈ h.seats := by
      constructor
      · intro hne hin
        rw [(t.own n h.owner).2 ⟨h, by rw [hL]; simp, rfl, hin⟩] at hne
        exact hne rfl
      · intro hno he
        cases e : getM n f.own with
        | none => rw [e] at he; have he : (0 : Int) = h.owner := he; have := hh.owner.1; omega
        | some x =>
          rw [e] at he
          have he : x = h.owner := he
          subst he
          obtain ⟨y, hy, hyo, hyn⟩ := (t.own n h.owner).1 e
          have h1 : getO h.owner r.L = some y := (getO_iff g.rise.ne).2 ⟨hy, hyo⟩
          rw [hg] at h1; cases h1
          exact hno hyn
    by_cases hin : n ∈ h.seats
    · rw [if_neg (fun e => hiff.1 e hin), if_pos hin]
      have hset : setO h.owner (h.cut n) r.L = A ++ h.cut n :: C := by rw [hL]; exact setO_app rfl hA
      rw [hset]
      have hmem : ∀ x, x ∈ (h.cut n).seats ↔ x ∈ h.seats ∧ x ≠ n := fun x => by
        show x ∈ h.seats.filter _ ↔ _
        rw [List.mem_filter]; simp
      refine ⟨rfl, tie_set (h' := h.cut n) t g hL hA rfl rfl rfl (fun x hx => .inl ((hmem x).1 hx).1) (delM_nodup t.nod) fun x => ?_, good_set (h' := h.cut n) g hL rfl rfl rfl ?_ ?_ fun x hx => .inl ((hmem x).1 hx).1⟩
      · rw [getM_delM t.nod]
        by_cases hx : x = n
        · rw [if_pos hx, if_neg (fun e => ((hmem x).1 e).2 hx), if_pos (by rw [hx]; exact hin)]
        · rw [if_neg hx]
          by_cases hx2 : x ∈ h.seats
          · rw [if_pos ((hmem x).2 ⟨hx2, hx⟩)]
            exact (t.own x h.owner).2 ⟨h, by rw [hL]; simp, rfl, hx2⟩
          · rw [if_neg (fun e => hx2 ((hmem x).1 e).1), if_neg hx2]
      · exact rise_iff.2 ((rise_iff.1 hh.rise).sublist List.filter_sublist)
      · have := List.length_filter_le (fun x => !(x == n)) h.seats
        show ((h.seats.filter fun x => !(x == n)).length : Int) ≤ _
        have := hh.few
        omega
    · rw [if_pos (hiff.2 hin), if_neg hin]; exact ⟨rfl, t, g⟩

theorem tie_give (t : Tie f r) (g : Good r) (o : Int) : (giveF f o).2 = (rgiveF r o).2 ∧ Tie (giveF f o).1 (rgiveF r o).1 ∧ Good (rgiveF r o).1 := by
  unfold giveF rgiveF
  rw [t.get g.rise]
  cases hg : getO o r.L with
  | none => exact ⟨rfl, t, g⟩
  | some h =>
    obtain ⟨A, C, hL, hA, rfl⟩ := getO_split hg
    have hh := g.each h (by rw [hL]; simp)
    have hmany : ∀ x ∈ r.L, 1 ≤ x.many := fun x hx => (g.each x hx).many
    have hap := g.apart
    rw [hL] at hap
    obtain ⟨a1, a2⟩ := apart_mid hap
    dsimp only
    have hdel : delO h.owner r.L = A ++ C := by rw [hL]; exact delO_app rfl hA
    rw [hdel]
    have p : r.L.Perm (h :: (A ++ C)) := by rw [hL]; exact List.perm_middle
    have hout : r.sold.set h.cls.toNat (r.sold.getD h.cls.toNat 0 - h.many) = soldL r.lims.length (A ++ C) := soldL_out p hh.cls.1 hh.cls.2
    have hle : h.many ≤ r.sold.getD h.cls.toNat 0 := by
      show _ ≤ (soldL r.lims.length r.L).getD _ 0
      have hcl := hh.cls
      rw [soldL_getD (by omega), cntL_perm p, show ((h.cls.toNat : Nat) : Int) = h.cls by omega]
      have := cntL_nn (k := h.cls) (L := A ++ C) fun x hx => hmany x (by rw [hL]; exact mem_mid hx)
      show h.many ≤ (if h.cls = h.cls then h.many else 0) + _
      rw [if_pos rfl]; omega
    have hback : backT f.lims f.sold h.cls h.many = (soldL r.lims.length (A ++ C), 0) := by
      rw [t.lims, t.sold]
      unfold backT
      have hl : (leftT r.lims r.sold h.cls).2 = 0 := by unfold leftT; rw [if_pos ⟨g.nest, hh.cls.1, hh.cls.2⟩]
      rw [if_neg (by rw [hl]; have := hh.many; omega), hout]
    rw [hback]
    have hg2 : getM h.owner f.hs = some h := by rw [t.get g.rise]; exact hg
    obtain ⟨a, c, hsp, hna⟩ := getM_split hg2
    have hdm : delM h.owner f.hs = a ++ c := by rw [hsp]; exact delM_app hna (int_rfl _)
    obtain ⟨d1, d2⟩ := delAll_get (l := h.seats) t.nod
    refine ⟨rfl, ⟨t.num, t.rows, t.grps, t.lims, rfl, ?_, ?_, ?_, d1⟩, ⟨g.num, g.lay, ?_, g.l0, ?_, ?_, a2⟩⟩
    · show ((delM h.owner f.hs).map (·.2)).Perm (A ++ C)
      have p := t.hs
      rw [hsp, hL, List.map_append, List.map_cons] at p
      rw [hdm, List.map_append]
      exact ((List.perm_middle.symm.trans p).trans List.perm_middle).cons_inv
    · show ∀ e ∈ delM h.owner f.hs, e.2.owner = e.1
      intro e he
      exact t.key e ((delM_sub _ _).subset he)
    · intro n o'
      show getM n (delAll h.seats f.own) = some o' ↔ ∃ x ∈ A ++ C, x.owner = o' ∧ n ∈ x.seats
      rw [d2]
      constructor
      · intro e
        split at e
        · cases e
        · rename_i hn
          obtain ⟨x, hx, hxo, hxn⟩ := (t.own n o').1 e
          rcases List.mem_cons.1 (p.mem_iff.1 hx) with rfl | hx
          · exact absurd hxn hn
          · exact ⟨x, hx, hxo, hxn⟩
      · rintro ⟨x, hx, hxo, hxn⟩
        rw [if_neg (fun hh => a1 x hx n hh hxn)]
        exact (t.own n o').2 ⟨x, p.mem_iff.2 (List.mem_cons_of_mem _ hx), hxo, hxn⟩
    · refine nest_le g.nest (by show (soldL _ _).length = (soldL _ _).length; rw [soldL_len, soldL_len]) fun k hk => ?_
      show 0 ≤ (soldL r.lims.length (A ++ C)).getD k 0 ∧ (soldL r.lims.length (A ++ C)).getD k 0 ≤ (soldL r.lims.length r.L).getD k 0
      have hk : k < r.lims.length := hk
      rw [soldL_getD hk, soldL_getD hk, cntL_perm p]
      refine ⟨cntL_nn fun x hx => hmany x (p.mem_iff.2 (List.mem_cons_of_mem _ hx)), ?_⟩
      rw [cntL_cons]
      have := hh.many
      split <;> omega
    · have := g.rise; rw [hL] at this; exact owR_cut this
    · intro x hx
      exact g.each x (p.mem_iff.2 (List.mem_cons_of_mem _ hx))
end Go.Proofs.YtaacfjdknlglhaaGreatDoor
/- A flight, plain: Auto; its state. Condition: none. -/
namespace Go.Proofs.YtaacfjdknlglhaaGreatDoor
set_option linter.unusedVariables false
open Go Go.VC

/-! ### Free seats -/
theorem free_one {u u' : Nat → Bool} {x : Int} (h : ∀ j : Nat, u' j = true → u j = true ∨ (j : Int) = x) : ∀ N : Nat, (freeL u N).length ≤ (freeL u' N).length + (if x < N ∧ 0 ≤ x then 1 else 0)
  | 0 => by simp [freeL]
  | N + 1 => by
    have ih := free_one h N
    rw [free_step, free_step]
    by_cases e : u N = true
    · rw [if_pos e]
      split at ih <;> split <;> split <;> omega
    · rw [if_neg e]
      by_cases e2 : u' N = true
      · rw [if_pos e2]
        have e3 : (N : Int) = x := (h N e2).resolve_left e
        rw [if_neg (by omega)] at ih
        rw [if_pos (by omega)]
        omega
      · rw [if_neg e2]
        split at ih <;> split <;> omega
theorem free_cnt : ∀ (T : List Int) (N : Nat), N ≤ (freeL (usedF T) N).length + T.length
  | [], N => by
    have key : ∀ N : Nat, (freeL (usedF []) N).length = N := fun N => by
      induction N with
      | zero => rfl
      | succ N ih => rw [free_step, ih]; simp [usedF]
    rw [key]; omega
  | x :: T, N => by
    have ih := free_cnt T N
    have h1 := free_one (u := usedF T) (u' := usedF (x :: T)) (x := x) (fun j hj => by
      unfold usedF at hj ⊢
      rw [decide_eq_true_eq] at hj ⊢
      rcases List.mem_cons.1 hj with h | h
      · exact .inr h
      · exact .inl h) N
    rw [List.length_cons]
    split at h1 <;> omega

theorem best_in {n : Int} {g taken : List Int} {many : Int} : ∀ x ∈ (bestT n g taken many).1, (0 ≤ x ∧ x < layN n g) ∧ x ∉ taken := by
  intro x hx
  have hb := layN_bd n g
  have nat : ∀ j : Nat, j < (layN n g).toNat → usedF taken j = false → (0 ≤ (j : Int) ∧ (j : Int) < layN n g) ∧ (j : Int) ∉ taken := fun j h1 h2 => by
    refine ⟨by omega, ?_⟩
    unfold usedF at h2
    exact of_decide_eq_false h2
  unfold bestT at hx
  split at hx
  · cases hx
  rename_i hm
  obtain ⟨j, hj, rfl⟩ := List.mem_map.1 hx
  unfold bestF at hj
  split at hj
  · rename_i i hfi
    have h1 := List.find?_some hfi
    have h2 := List.mem_range.1 (List.mem_of_find?_eq_some hfi)
    have h3 : many.toNat ≤ runL (usedF taken) (zF g) (i + 1) := by rw [beq_iff_eq.1 h1]; exact Nat.le_refl _
    obtain ⟨h4, h5⟩ := runL_ge.1 h3
    unfold upTo at hj
    obtain ⟨t, ht, rfl⟩ := List.mem_map.1 hj
    have ht := List.mem_range.1 ht
    exact nat _ (by omega) (h5 _ (by omega) (by omega)).1
  · split at hj
    · cases hj
    · obtain ⟨i, hi⟩ := List.getElem?_of_mem (List.mem_of_mem_take hj)
      obtain ⟨h1, h2, _⟩ := free_of hi
      exact nat j h1 h2
theorem best_cnt {n : Int} {g taken : List Int} {many : Int} (h : (bestT n g taken many).2 = 0) : ((bestT n g taken many).1.length : Int) = many := by
  unfold bestT at h ⊢
  split at h
  · cases h
  rename_i hm
  rw [if_neg hm]
  rw [List.length_map]
  dsimp only at h
  unfold bestF at h ⊢
  generalize (List.range (layN n g).toNat).find? (fun j => runL (usedF taken) (zF g) (j + 1) == many.toNat) = o at h ⊢
  cases o with
  | some i =>
    dsimp only
    rw [upTo_len]; omega
  | none =>
    dsimp only at h ⊢
    split at h
    · cases h
    · rename_i h2
      rw [if_neg h2, List.length_take]; omega
theorem best_no {n : Int} {g taken : List Int} {many : Int} (h : (bestT n g taken many).2 ≠ 0) : (bestT n g taken many).1 = [] := by
  unfold bestT at h ⊢
  split at h
  · rename_i hm; rw [if_pos hm]
  rename_i hm
  rw [if_neg hm]
  dsimp only at h ⊢
  unfold bestF at h ⊢
  generalize (List.range (layN n g).toNat).find? (fun j => runL (usedF taken) (zF g) (j + 1) == many.toNat) = o at h ⊢
  cases o with
  | some i => exact absurd rfl h
  | none =>
    dsimp only at h ⊢
    split at h
    · rename_i h2; rw [if_pos h2]; rfl
    · exact absurd rfl h
theorem best_ok {n : Int} {g taken : List Int} {many : Int} (h1 : 1 ≤ many) (h2 : many + taken.length ≤ layN n g) : (bestT n g taken many).2 = 0 := by
  have hb := layN_bd n g
  unfold bestT
  rw [if_neg (by omega)]
  dsimp only
  unfold bestF
  split
  · rfl
  · rw [if_neg]
    have := free_cnt taken (layN n g).toNat
    omega
theorem bestT_mem {n : Int} {g a b : List Int} {many : Int} (h : ∀ x, x ∈ a ↔ x ∈ b) : bestT n g a many = bestT n g b many := by
  have : usedF a = usedF b := by
    funext j
    unfold usedF
    rw [decide_eq_decide]
    exact h _
  unfold bestT
  rw [this]

variable {f : PF} {r : RF}
/-! ### So many -/
theorem taken_len : ∀ {L : List Hold}, (∀ h ∈ L, (h.seats.length : Int) ≤ h.many) → ((takenL L).length : Int) ≤ totL L
  | [], _ => Int.le_refl _
  | h :: L, hf => by
    have ih := taken_len fun x hx => hf x (List.mem_cons_of_mem _ hx)
    have h1 := hf h List.mem_cons_self
    show ((h.seats ++ takenL L).length : Int) ≤ h.many + totL L
    rw [List.length_append]; omega
theorem totL_perm {A B : List Hold} (h : A.Perm B) : totL A = totL B := by
  induction h with
  | nil => rfl
  | cons x _ ih => simp only [totL, ih]
  | swap x y l => simp only [totL]; exact Int.add_left_comm _ _ _
  | trans _ _ a b => exact a.trans b
theorem Good.tot (g : Good r) : totL r.L ≤ layN r.rows r.grps := by
  rw [← totL_from (n := r.lims.length) fun h hh => (g.each h hh).cls, ← g.l0]
  have hl := (limOk_iff.1 (nestOk_iff.1 g.nest).1).1.1
  exact ((nestOk_iff.1 g.nest).2.2 0 (by omega)).2
theorem len_tot : ∀ {L : List Hold}, (∀ h ∈ L, 1 ≤ h.many) → (L.length : Int) ≤ totL L ∧ ∀ h ∈ L, h.many ≤ totL L
  | [], _ => ⟨Int.le_refl _, by simp⟩
  | h :: L, hm => by
    obtain ⟨i1, i2⟩ := len_tot fun x hx => hm x (List.mem_cons_of_mem _ hx)
    have h1 := hm h List.mem_cons_self
    have e : totL (h :: L) = h.many + totL L := rfl
    rw [e, List.length_cons]
    refine ⟨by omega, fun x hx => ?_⟩
    rcases List.mem_cons.1 hx with rfl | hx
    · omega
    · have := i2 x hx; omega
theorem Good.len (g : Good r) : (r.L.length : Int) ≤ 600 ∧ ∀ h ∈ r.L, h.many ≤ 600 := by
  obtain ⟨h1, h2⟩ := len_tot fun h hh => (g.each h hh).many
  have h3 := g.tot
  have h4 := (layN_bd r.rows r.grps).2
  exact ⟨by omega, fun h hh => by have := h2 h hh; omega⟩
theorem Good.best (g : Good r) {A C : List Hold} {h : Hold} (hL : r.L = A ++ h :: C) (hs : h.seats = []) : (bestT r.rows r.grps (takenL r.L) h.many).2 = 0 := by
  have hh := g.each h (by rw [hL]; simp)
  refine best_ok hh.many ?_
  have h1 := g.tot
  have p : r.L.Perm (h :: (A ++ C)) := by rw [hL]; exact List.perm_middle
  rw [totL_perm p] at h1
  have e1 : totL (h :: (A ++ C)) = h.many + totL (A ++ C) := rfl
  have e2 : (takenL r.L).length = (takenL (A ++ C)).length := by
    rw [hL]
    unfold takenL
    rw [List.flatMap_append, List.flatMap_cons, hs, List.nil_append, ← List.flatMap_append]
  have e3 := taken_len (L := A ++ C) fun x hx => (g.each x (by rw [hL]; exact mem_mid hx)).few
  omega

theorem tie_auto (t : Tie f r) (g : Good r) (o : Int) :
    (autoF f o).2 = (rautoF r o).2 ∧ Tie (autoF f o).1 (rautoF r o).1 ∧ Good (rautoF r o).1 ∧ ((rautoF r o).2.2 = 0 ∨ (rautoF r o).2.2 = 2 ∨ (rautoF r o).2.2 = 7) := by
  unfold autoF rautoF
  rw [t.get g.rise]
  cases hg : getO o r.L with
  | none => exact ⟨rfl, t, g, .inr (.inl rfl)⟩
  | some h =>
    obtain ⟨A, C, hL, hA, rfl⟩ := getO_split hg
    have hh := g.each h (by rw [hL]; simp)
    dsimp only
    split
    · exact ⟨rfl, t, g, .inr (.inr rfl)⟩
    rename_i hs
    have hs : h.seats = [] := List.length_eq_zero_iff.1 (by omega)
    have e : bestT f.rows f.grps (f.own.map (·.1)) h.many = bestT r.rows r.grps (takenL r.L) h.many := by
      rw [t.rows, t.grps]
      exact bestT_mem fun x => by rw [← t.taken, getM_mem]
    have hb := g.best hL hs
    have hin := best_in (n := r.rows) (g := r.grps) (taken := takenL r.L) (many := h.many)
    have hri := best_rise (n := r.rows) (g := r.grps) (taken := takenL r.L) (many := h.many)
    have hct := best_cnt hb
    rw [if_pos hb, e, show labsF f.rows f.grps = labsF r.rows r.grps by rw [t.rows, t.grps]]
    have hset : setO h.owner { h with seats := (bestT r.rows r.grps (takenL r.L) h.many).1 } r.L = A ++ { h with seats := (bestT r.rows r.grps (takenL r.L) h.many).1 } :: C := by rw [hL]; exact setO_app rfl hA
    rw [hset, hb]
    generalize (bestT r.rows r.grps (takenL r.L) h.many).1 = l at *
    obtain ⟨p1, p2⟩ := putAll_get (o := h.owner) (l := l) t.nod
    refine ⟨rfl, tie_set (h' := { h with seats := l }) t g hL hA rfl rfl rfl (fun x hx => .inr (hin x hx).2) p1 fun x => ?_, good_set (h' := { h with seats := l }) g hL rfl rfl rfl hri ?_ fun x hx => .inr ⟨(hin x hx).2, (hin x hx).1⟩, .inl rfl⟩
    · rw [p2, hs]
      rw [if_neg (by simp : ¬ x ∈ ([] : List Int))]
    · show (l.length : Int) ≤ h.many
      omega

/-! ### Its state -/
theorem tie_keys (t : Tie f r) (g : OwR r.L) : (f.hs.map (·.1)).Perm (r.L.map Hold.owner) := by
  have e : f.hs.map (·.1) = (f.hs.map (·.2)).map Hold.owner := by
    rw [List.map_map]
    exact List.map_congr_left fun e he => (t.key e he).symm
  rw [e]
  exact t.hs.map _
theorem tie_sort (t : Tie f r) (g : OwR r.L) : sortI (f.hs.map (·.1)) = r.L.map Hold.owner := by
  rw [sortI_perm (tie_keys t g)]
  unfold sortI
  refine List.mergeSort_of_pairwise ?_
  rw [List.pairwise_map]
  exact g.imp fun h => by simp only [decide_eq_true_eq]; omega
theorem tie_holds (t : Tie f r) (g : OwR r.L) : holdsF f = r.L := by
  unfold holdsF
  rw [tie_sort t g, List.map_map]
  have key : ∀ h ∈ r.L, (holdOf f ∘ Hold.owner) h = h := fun h hh => by
    show (getM h.owner f.hs).getD hold0 = h
    rw [t.get g, (getO_iff g.ne).2 ⟨hh, rfl⟩]; rfl
  rw [List.map_congr_left key, List.map_id']
theorem tie_left (t : Tie f r) : leftsF f = rleftsF r := by
  unfold leftsF rleftsF
  rw [t.lims, t.sold]
theorem tie_labels (t : Tie f r) (g : OwR r.L) (o : Int) : labelsF f o = rlabelsF r o := by
  unfold labelsF rlabelsF
  rw [t.get g, t.rows, t.grps]
  try (cases getO o r.L <;> rfl)

theorem Tie.nodK (t : Tie f r) (g : OwR r.L) : (f.hs.map (·.1)).Nodup := by
  refine ((tie_keys t g).nodup_iff).2 ?_
  rw [List.nodup_iff_pairwise_ne, List.pairwise_map]
  exact g.ne
theorem Tie.mem (t : Tie f r) {e : Int × Hold} (he : e ∈ f.hs) : e.2 ∈ r.L := t.hs.mem_iff.1 (List.mem_map.2 ⟨e, he, rfl⟩)
theorem Tie.ownIn (t : Tie f r) (g : Good r) : ∀ k ∈ f.own.map (·.1), 0 ≤ k ∧ k < layN r.rows r.grps := fun k hk => by
  obtain ⟨o, ho⟩ := Option.isSome_iff_exists.1 (getM_mem.2 hk)
  obtain ⟨h, hh, _, hs⟩ := (t.own k o).1 ho
  exact (g.each h hh).seats k hs
theorem nodup_bd : ∀ (N : Nat) {l : List Int}, l.Nodup → (∀ x ∈ l, 0 ≤ x ∧ x < N) → l.length ≤ N
  | 0, [], _, _ => Nat.le_refl _
  | 0, x :: l, _, hb => by have := hb x List.mem_cons_self; omega
  | N + 1, l, h, hb => by
    by_cases hm : (N : Int) ∈ l
    · have h1 := nodup_bd N (h.erase (N : Int)) fun x hx => by
        have h2 := (h.mem_erase_iff).1 hx
        have := hb x h2.2
        have := h2.1
        omega
      rw [List.length_erase_of_mem hm] at h1
      omega
    · have h1 := nodup_bd N h fun x hx => by
        have := hb x hx
        have : x ≠ N := fun e => hm (by rw [← e]; exact hx)
        omega
      omega
theorem Tie.bounds (t : Tie f r) (g : Good r) : f.hs.length ≤ 600 ∧ f.own.length ≤ 600 ∧ f.lims.length ≤ 8 ∧ f.sold.length ≤ 8 ∧ f.grps.length ≤ 4 ∧ (∀ e ∈ f.hs, Rise e.2.seats ∧ e.2.seats.length ≤ 600) ∧ (∀ k ∈ f.hs.map (·.1), 1 ≤ k ∧ k ≤ 28629151) := by
  have hl := g.len
  have h1 := t.hs.length_eq
  rw [List.length_map] at h1
  have h2 := nodup_bd (layN r.rows r.grps).toNat t.nod fun x hx => by have := t.ownIn g x hx; omega
  rw [List.length_map] at h2
  have h3 := layN_bd r.rows r.grps
  have h4 := (limOk_iff.1 (nestOk_iff.1 g.nest).1).1.2
  have h5 := (layOk_iff.1 g.lay).1
  refine ⟨by omega, by omega, by rw [t.lims]; exact h4, by rw [t.sold]; show (soldL _ _).length ≤ 8; rw [soldL_len]; exact h4, by rw [t.grps]; omega, fun e he => ?_, fun k hk => ?_⟩
  · have hh := g.each _ (t.mem he)
    have := hl.2 _ (t.mem he)
    exact ⟨hh.rise, by have := hh.few; omega⟩
  · obtain ⟨e, he, rfl⟩ := List.mem_map.1 hk
    have hh := g.each _ (t.mem he)
    have := hh.owner
    rw [t.key e he] at this; exact this

/-- A new one. -/
def rnewF (num rows : Int) (grps lims : List Int) : RF := ⟨num, rows, grps, lims, []⟩
theorem good_new {num rows : Int} {grps : List Int} {parts : List Nat} (h : newOk num rows grps parts) : Good (rnewF num rows grps (limitsT (layN rows grps) parts).1) := by
  obtain ⟨h1, h2, h3, h4⟩ := h
  obtain ⟨l1, l2⟩ := limits_ok h4
  refine ⟨⟨h1, h2⟩, h3, ?_, l2, List.Pairwise.nil, fun h hh => (by cases hh), List.Pairwise.nil⟩
  show nestOk _ (soldL _ []) = true
  rw [soldL_nil]; exact nest_zero l1
theorem tie_new {num rows : Int} {grps lims : List Int} : Tie (emptyF num rows grps lims) (rnewF num rows grps lims) := by
  refine ⟨rfl, rfl, rfl, rfl, ?_, List.Perm.refl _, fun e he => (by cases he), fun n o => ?_, List.nodup_nil⟩
  · show List.replicate _ 0 = soldL _ []
    rw [soldL_nil]; rfl
  · constructor
    · intro h; cases h
    · rintro ⟨h, hh, _⟩; cases hh
end Go.Proofs.YtaacfjdknlglhaaGreatDoor
/- Reference 15: New, Take, Give, Seat, Unseat, Auto. Condition: bounds. -/
namespace Go.Proofs.YtaacfjdknlglhaaGreatDoor
set_option linter.unusedVariables false
open Go Go.VC

variable {R R' : Cx} {Hs Rest : List HP} {w : World}

/-! ### Lists side by side -/
section
variable {γ : Type} (f : Hold × Sl → γ)
theorem zipm_ins (h : Hold) (t : Sl) : ∀ (k : Nat) (L : List Hold) (ts : List Sl), ts.length = L.length → k ≤ L.length → ((L.take k ++ h :: L.drop k).zip (ts.take k ++ t :: ts.drop k)).map f = ((L.zip ts).map f).take k ++ f (h, t) :: ((L.zip ts).map f).drop k
  | 0, L, ts, _, _ => by simp
  | k + 1, [], ts, _, hk => by simp at hk
  | k + 1, x :: L, [], hl, _ => by simp at hl
  | k + 1, x :: L, y :: ts, hl, hk => by
    have ih := zipm_ins h t k L ts (by simpa using hl) (by simpa using hk)
    simp only [List.take_succ_cons, List.drop_succ_cons, List.cons_append, List.zip_cons_cons, List.map_cons, ih]
theorem zipm_del : ∀ (k : Nat) (L : List Hold) (ts : List Sl), ts.length = L.length → k < L.length → ((L.take k ++ L.drop (k + 1)).zip (ts.take k ++ ts.drop (k + 1))).map f = ((L.zip ts).map f).take k ++ ((L.zip ts).map f).drop (k + 1)
  | k, [], ts, _, hk => by simp at hk
  | k, x :: L, [], hl, _ => by simp at hl
  | 0, x :: L, y :: ts, _, _ => by simp
  | k + 1, x :: L, y :: ts, hl, hk => by
    have ih := zipm_del k L ts (by simpa using hl) (by simpa using hk)
    simp only [List.take_succ_cons, List.drop_succ_cons, List.cons_append, List.zip_cons_cons, List.map_cons, ih]
theorem zipm_set (h : Hold) (t : Sl) : ∀ (k : Nat) (L : List Hold) (ts : List Sl), ((L.set k h).zip (ts.set k t)) = (L.zip ts).set k (h, t)
  | k, [], ts => by simp
  | k, x :: L, [] => by simp
  | 0, x :: L, y :: ts => by simp
  | k + 1, x :: L, y :: ts => by
    have ih := zipm_set h t k L ts
    simp only [List.set_cons_succ, List.zip_cons_cons, ih]
end
theorem rowsH_ins {L : List Hold} {ts : List Sl} {k : Nat} (hl : ts.length = L.length) (hk : k ≤ L.length) (h : Hold) (t : Sl) : rowsH (L.take k ++ h :: L.drop k) (ts.take k ++ t :: ts.drop k) = (rowsH L ts).take k ++ [rowH h t] ++ (rowsH L ts).drop k := by
  rw [List.append_assoc]
  exact zipm_ins (fun x => rowH x.1 x.2) h t k L ts hl hk
theorem rowsH_del {L : List Hold} {ts : List Sl} {k : Nat} (hl : ts.length = L.length) (hk : k < L.length) : rowsH (L.take k ++ L.drop (k + 1)) (ts.take k ++ ts.drop (k + 1)) = (rowsH L ts).take k ++ (rowsH L ts).drop (k + 1) := zipm_del (fun x => rowH x.1 x.2) k L ts hl hk
theorem SeatsAt.ins {L : List Hold} {ts : List Sl} {k : Nat} {h : Hold} {t : Sl} (hl : ts.length = L.length) (hk : k ≤ L.length) (hw : Sat R (Reads t (intsI h.seats) :: SeatsAt L ts :: Hs) w) : Sat R (SeatsAt (L.take k ++ h :: L.drop k) (ts.take k ++ t :: ts.drop k) :: Hs) w := by
  refine Sat.star.2 ?_
  rw [show seatsH (L.take k ++ h :: L.drop k) (ts.take k ++ t :: ts.drop k) = (seatsH L ts).take k ++ Reads t (intsI h.seats) :: (seatsH L ts).drop k from zipm_ins (fun x => Reads x.2 (intsI x.1.seats)) h t k L ts hl hk]
  have hw : Sat R (Reads t (intsI h.seats) :: (seatsH L ts ++ Hs)) w := hw.cons fun _ h => Sat.star.1 h
  refine hw.perm ?_
  rw [List.append_assoc, List.cons_append]
  refine (List.Perm.trans ?_ List.perm_middle.symm)
  rw [← List.append_assoc, List.take_append_drop]
theorem SeatsAt.pick {L : List Hold} {ts : List Sl} {k : Nat} (hk : k < L.length) (hk' : k < ts.length) (hw : Sat R (SeatsAt L ts :: Hs) w) : Sat R (Reads ts[k] (intsI L[k].seats) :: ((seatsH L ts).take k ++ (seatsH L ts).drop (k + 1) ++ Hs)) w := by
  have hw := Sat.star.1 hw
  have hlt : k < (seatsH L ts).length := by simp [seatsH]; omega
  have e : seatsH L ts = (seatsH L ts).take k ++ Reads ts[k] (intsI L[k].seats) :: (seatsH L ts).drop (k + 1) := by
    have h1 : (seatsH L ts)[k] = Reads ts[k] (intsI L[k].seats) := by simp [seatsH]
    rw [← h1, ← List.drop_eq_getElem_cons hlt, List.take_append_drop]
  rw [e, List.append_assoc, List.cons_append] at hw
  rw [List.append_assoc]
  exact hw.perm List.perm_middle
theorem SeatsAt.del {L : List Hold} {ts : List Sl} {k : Nat} (hl : ts.length = L.length) (hk : k < L.length) (hw : Sat R (SeatsAt L ts :: Hs) w) : Sat R (SeatsAt (L.take k ++ L.drop (k + 1)) (ts.take k ++ ts.drop (k + 1)) :: Hs) w := by
  have hw := (SeatsAt.pick hk (by omega) hw).drop
  refine Sat.star.2 ?_
  rw [show seatsH (L.take k ++ L.drop (k + 1)) (ts.take k ++ ts.drop (k + 1)) = (seatsH L ts).take k ++ (seatsH L ts).drop (k + 1) from zipm_del (fun x => Reads x.2 (intsI x.1.seats)) k L ts hl hk]
  exact hw
theorem SeatsAt.set {L : List Hold} {ts : List Sl} {k : Nat} {h : Hold} {t : Sl} (hl : ts.length = L.length) (hk : k < L.length) (hw : Sat R (Reads t (intsI h.seats) :: SeatsAt L ts :: Hs) w) : Sat R (SeatsAt (L.set k h) (ts.set k t) :: Hs) w := by
  have hw : Sat R (Reads t (intsI h.seats) :: ((seatsH L ts).take k ++ (seatsH L ts).drop (k + 1) ++ Hs)) w := hw.cons fun _ h5 => (SeatsAt.pick hk (by omega) h5).drop
  refine Sat.star.2 ?_
  have hlt : k < (seatsH L ts).length := by simp [seatsH]; omega
  rw [show seatsH (L.set k h) (ts.set k t) = (seatsH L ts).take k ++ Reads t (intsI h.seats) :: (seatsH L ts).drop (k + 1) by
    unfold seatsH at hlt ⊢
    rw [zipm_set, List.map_set, List.set_eq_take_append_cons_drop, if_pos hlt]]
  refine hw.perm ?_
  rw [List.append_assoc, List.append_assoc, List.cons_append]
  exact List.perm_middle.symm

theorem RfR.row {A C : List Hold} {hd : Hold} {r : RF} {sg sl s : Sl} {ts : List Sl} (h : RfR R r sg sl s ts) (hL : r.L = A ++ hd :: C) : ∃ (t : Sl) (ht : A.length < ts.length), ts[A.length] = t ∧ SlR R.m t (intsI hd.seats) ∧
    ∀ {S : World → Prop} {Hs : List HP} {i : Nat} {v : Value}, (∀ w, S w → Sat R Hs w) → (rowH hd t)[i]? = some v → ∀ {F : Addr → Prop}, (∀ a : Addr, a.spot = none → At S ⟨(a.add (mulS A.length 4)).block, (a.add (mulS A.length 4)).off + i, none⟩ [v] → F a) → Rng (A.length : Int) s.len (NilP s.a F) := by
  have hl := h.hs.len
  have i1 : A.length < r.L.length := by rw [hL]; simp
  have i2 : A.length < ts.length := by omega
  have hgi : r.L[A.length] = hd := by simp [hL]
  have hsd := h.hs.seats A.length i1 i2
  rw [hgi] at hsd
  exact ⟨_, i2, rfl, hsd, fun {S Hs i v} hS hv {F} f => h.hs.fld hS i1 i2 (by rw [hgi]; exact hv) f⟩
theorem mid_take {A C : List Hold} {hd : Hold} : (A ++ hd :: C).take A.length ++ (A ++ hd :: C).drop (A.length + 1) = A ++ C := by simp
theorem mid_set {A C : List Hold} {hd h' : Hold} : (A ++ hd :: C).set A.length h' = A ++ h' :: C := by simp

theorem rows_one (L : List Hold) (ts : List Sl) : oneAll (rowsH L ts).flatten = true := by
  have key : ∀ E : List (Hold × Sl), oneAll ((E.map fun x => rowH x.1 x.2).flatten) = true := fun E => by
    induction E with
    | nil => rfl
    | cons x E ih =>
      show oneAll (rowH x.1 x.2 ++ _) = true
      unfold oneAll at ih ⊢
      rw [List.all_append, ih]; rfl
  exact key _
theorem oneAll_take {l : List (List Value)} (k : Nat) (h : oneAll l.flatten = true) : oneAll (l.take k).flatten = true := by
  have e : l.flatten = (l.take k).flatten ++ (l.drop k).flatten := by rw [← List.flatten_append, List.take_append_drop]
  unfold oneAll at *
  rw [e, List.all_append, Bool.and_eq_true] at h
  exact h.1
theorem oneAll_drop {l : List (List Value)} (k : Nat) (h : oneAll l.flatten = true) : oneAll (l.drop k).flatten = true := by
  have e : l.flatten = (l.take k).flatten ++ (l.drop k).flatten := by rw [← List.flatten_append, List.take_append_drop]
  unfold oneAll at *
  rw [e, List.all_append, Bool.and_eq_true] at h
  exact h.2

/-! ### New -/
theorem rnew_fspec {num rows : Int} {sg sp : Sl} {grps : List Int} {parts : List Nat} (hg : RoI R sg grps) (hp : SlR R.m sp (flts parts)) (hw : Sat R Hs w) :
    Gets Tryz.prog 52 #[.int .i64 num, .agg #[.int .i64 rows, .slice sg.a sg.len sg.cap], .slice sp.a sp.len sp.cap] w fun v w' =>
      (¬ newOk num rows grps parts ∧ v = .tuple #[.pointer none, .int .i64 1] ∧ Sat R Hs w') ∨
      (newOk num rows grps parts ∧ ∃ p, v = .tuple #[.pointer (some ⟨p, 0, none⟩), .int .i64 0] ∧ Sat R (RFAt p (rnewF num rows grps (limitsT (layN rows grps) parts).1) :: Hs) w') := by
  apply call52
  suffices H : ∀ K : Value → World → Prop, (¬ newOk num rows grps parts → ∀ w', Sat R Hs w' → K (.tuple #[.pointer none, .int .i64 1]) w') → (newOk num rows grps parts → ∀ p w', Sat R (RFAt p (rnewF num rows grps (limitsT (layN rows grps) parts).1) :: Hs) w' → K (.tuple #[.pointer (some ⟨p, 0, none⟩), .int .i64 0]) w') → B52 num rows sg sp K w from
    H _ (fun h w' h' => .inl ⟨h, rfl, h'⟩) fun h p w' h' => .inr ⟨h, p, rfl, h'⟩
  intro K hK1 hK2
  refine new_rule hw fun b4 w hw => ?_
  have hw : Sat R (pts b4 (layC rows sg) :: Hs) w := hw
  refine ⟨rows, sg, At.own (eqS hw) (by exact ⟨rfl, rfl, trivial⟩), ?_⟩
  refine (rright_spec hg hw).use ?_
  clear hw
  rintro _ w ⟨rfl, hw⟩
  refine ⟨_, rfl, fun w => (¬ num < 1 ∧ ¬ num > 9999 ∧ layOk rows grps = true) ∧ Sat R (pts b4 (layC rows sg) :: Hs) w, ?_, ?_⟩
  · refine Br.d (fun h => hK1 (fun h2 => by have := h2.1; omega) _ hw.drop) (fun h1 => Br.d (fun h => hK1 (fun h2 => by have := h2.2.1; omega) _ hw.drop) (fun h2 => Br.nb (fun h => hK1 (fun h5 => by have h6 := h5.2.2.1; rw [h] at h6; cases h6) _ hw.drop) (fun h3 => ⟨⟨h1, h2, h3⟩, hw⟩)))
  clear hw
  rintro _ w ⟨⟨h1, h2, h3⟩, hw⟩
  refine ⟨rows, sg, At.own (eqS hw) (by exact ⟨rfl, rfl, trivial⟩), ?_⟩
  refine (rcount_spec hg hw).use ?_
  clear hw
  rintro _ w ⟨rfl, hw⟩
  refine ⟨_, rfl, ?_⟩
  refine (rlimits_spec hp hw).use ?_
  clear hw
  rintro _ w ⟨t, rfl, hw⟩
  refine ⟨_, _, rfl, Br.ne (fun h => hK1 (fun h5 => h h5.2.2.2) _ hw.drop.drop) (fun h4 => ?_)⟩
  obtain ⟨l1, _, _⟩ := layOk_iff.1 h3
  have hgl := hg.len
  refine new_rule hw fun b5 w hw => ?_
  refine ⟨sg, At.own (eqS hw) (by exact ⟨rfl, trivial⟩), ?_⟩
  refine append0_rule (b := b5) elI8 hw (srcRo Tryz.underlying33 hw hg (oneAll_ints grps)) (by rw [List.length_map]; omega) (by rw [List.length_map]; omega) fun tg w hw => ?_
  have hw : Sat R (pts b4 (layC rows sg) :: Own tg 3 (intsI grps) :: Own t 3 (intsI (limitsT (layN rows grps) parts).1) :: Hs) w := hw.arr
  refine store_rule hw (by kernel_rfl) rfl (by simp [Value.cells]) fun w hw => ?_
  have hw : Sat R (pts b4 (layC rows tg) :: Own tg 3 (intsI grps) :: Own t 3 (intsI (limitsT (layN rows grps) parts).1) :: Hs) w := hw
  refine ⟨rows, tg, At.own (eqS hw) (by exact ⟨rfl, rfl, trivial⟩), ?_⟩
  refine new_rule hw fun p w hw => ?_
  have hw : Sat R (pts p (rCells (rnewF num rows grps (limitsT (layN rows grps) parts).1) tg t ⟨none, 0, 0⟩) :: pts b4 (layC rows tg) :: Own tg 3 (intsI grps) :: Own t 3 (intsI (limitsT (layN rows grps) parts).1) :: Hs) w := hw
  refine hK2 ⟨by omega, by omega, h3, h4⟩ p w (Sat.rf.2 ⟨tg, t, ⟨none, 0, 0⟩, [], rfl, ?_⟩)
  have hw : Sat R (Own tg 3 (intsI grps) :: Own t 3 (intsI (limitsT (layN rows grps) parts).1) :: pts p (rCells (rnewF num rows grps (limitsT (layN rows grps) parts).1) tg t ⟨none, 0, 0⟩) :: Hs) w := (hw.arr : Sat R (pts b4 (layC rows tg) :: Own tg 3 (intsI grps) :: Own t 3 (intsI (limitsT (layN rows grps) parts).1) :: pts p (rCells (rnewF num rows grps (limitsT (layN rows grps) parts).1) tg t ⟨none, 0, 0⟩) :: Hs) w).drop
  exact Own.reads (hw.cons fun _ h => Own.reads (h.cons fun _ h => h.cons fun _ h => OwnN.nil (Sat.star.2 h)))

/-! ### Take -/
theorem insH_at {h : Hold} : ∀ {L : List Hold} {k : Nat}, k ≤ L.length → (∀ i (hi : i < L.length), i < k → L[i].owner < h.owner) → (∀ hk : k < L.length, ¬ L[k].owner < h.owner) → insH h L = L.take k ++ h :: L.drop k
  | [], k, _, _, _ => by simp [insH]
  | x :: L, 0, _, _, h2 => by
    have : ¬ x.owner < h.owner := h2 (by simp)
    unfold insH
    rw [if_neg this]; rfl
  | x :: L, k + 1, hk, h1, h2 => by
    have h3 : x.owner < h.owner := h1 0 (by simp) (by omega)
    unfold insH
    rw [if_pos h3, insH_at (by simpa using hk) (fun i hi hik => h1 (i + 1) (by simpa using hi) (by omega)) (fun hk' => h2 (by simpa using hk'))]
    rfl
theorem getO_place {o : Int} {L : List Hold} : (0 ≤ placeF o L 0) ↔ (getO o L).isSome = true := by
  cases hg : getO o L with
  | none => rw [placeF_none 0 hg]; simp
  | some h =>
    obtain ⟨A, C, rfl, hA, ho⟩ := getO_split hg
    rw [placeF_split ho 0 hA]; simp

theorem rtake_fspec {q : Nat} {r : RF} {owner cls many : Int} (hll : r.L.length ≤ 1000000) (hlm : r.lims.length ≤ 1000) (hc : ∀ x ∈ r.L, HCls r.lims.length x) (hw : Sat R (RFAt q r :: Hs) w) :
    Gets Tryz.prog 53 #[.pointer (some ⟨q, 0, none⟩), .int .i64 owner, .int .i64 cls, .int .i64 many] w fun v w' => v = .int .i64 (rtakeF r owner cls many).2 ∧ Sat R (RFAt q (rtakeF r owner cls many).1 :: Hs) w' := by
  apply call53
  suffices H : ∀ K : Value → World → Prop, (∀ w', Sat R (RFAt q (rtakeF r owner cls many).1 :: Hs) w' → K (.int .i64 (rtakeF r owner cls many).2) w') → B53 (some ⟨q, 0, none⟩) owner cls many K w from H _ fun w' h => ⟨rfl, h⟩
  intro K hK
  refine ⟨fun w => (1 ≤ owner ∧ owner ≤ 28629151) ∧ Sat R (RFAt q r :: Hs) w, ?_, ?_⟩
  · refine Br.d (fun h => ?_) (fun h1 => Br.d (fun h => ?_) (fun h2 => ⟨⟨by omega, by omega⟩, hw⟩))
    · rw [show rtakeF r owner cls many = (r, 1) by unfold rtakeF; rw [if_pos (.inl h)]] at hK; exact hK _ hw
    · rw [show rtakeF r owner cls many = (r, 1) by unfold rtakeF; rw [if_pos (.inr h)]] at hK; exact hK _ hw
  clear hw
  rintro _ w ⟨⟨h1, h2⟩, hw⟩
  obtain ⟨sg, sl, s, ts, R', ee, h, hw, back, hl⟩ := Sat.rfO hw
  have hsl := h.len
  have same : ∀ {w}, Sat R' (pts q (rCells r sg sl s) :: Hs) w → Sat R (RFAt q r :: Hs) w := fun hw => Sat.rf.2 ⟨sg, sl, s, ts, hl, back _ _ hw⟩
  have hsold : (soldL r.lims.length r.L).length = r.lims.length := soldL_len _ _
  refine (rplace_spec h hll hw).use ?_
  clear hw
  rintro _ w ⟨rfl, hw⟩
  refine ⟨_, rfl, Br.d (fun h3 => ?_) (fun h3 => ?_)⟩
  · rw [show rtakeF r owner cls many = (r, 7) by unfold rtakeF; rw [if_neg (by omega), if_pos (getO_place.1 h3)]] at hK; exact hK _ (same hw)
  have hno : ¬ (getO owner r.L).isSome = true := fun e => h3 (getO_place.2 e)
  have er : rtakeF r owner cls many = if (sellT r.lims r.sold cls many).2 = 0 then ({ r with L := insH ⟨owner, cls, many, []⟩ r.L }, 0) else (r, (sellT r.lims r.sold cls many).2) := by
    unfold rtakeF; rw [if_neg (by omega), if_neg hno]
  rw [er] at hK
  refine drw_rule hw fun w hw => ?_
  refine NilP.mk rfl ⟨sl, At.own selfS (by exact ⟨rfl, trivial⟩), ?_⟩
  refine (rsold_spec h hll hlm hc hw).use ?_
  clear hw
  rintro _ w ⟨t, rfl, hw⟩
  refine ⟨t, rfl, hw.drop, ?_⟩
  obtain ⟨R2, hro, keep, hw, back2⟩ := Own.lendI hw (by show (soldL _ _).length ≤ _; rw [soldL_len]; omega)
  refine (rsell_spec (keep _ _ (h.lims.ro (by rw [List.length_map]; omega))) hro hw).use ?_
  clear hw
  rintro _ w ⟨t2, rfl, hw⟩
  have hw := (back2 hw).drop.drop
  refine ⟨_, _, rfl, Br.ne (fun h4 => ?_) (fun h4 => ?_)⟩
  · rw [if_neg h4] at hK; exact hK _ (same hw)
  rw [if_pos h4] at hK
  refine ⟨fun at11 w => (∃ k : Nat, at11 = k ∧ k ≤ r.L.length ∧ insH ⟨owner, cls, many, []⟩ r.L = r.L.take k ++ ⟨owner, cls, many, []⟩ :: r.L.drop k) ∧ Sat R' (pts q (rCells r sg sl s) :: Hs) w, ?_, ?_⟩
  · refine ⟨fun at11 w => ∃ k : Nat, at11 = k ∧ k ≤ r.L.length ∧ (∀ i (hi : i < r.L.length), i < k → r.L[i].owner < owner) ∧ Sat R' (pts q (rCells r sg sl s) :: Hs) w, fun at11 _ => r.L.length - at11.toNat, ⟨0, rfl, by omega, fun i _ hi => by omega, hw⟩, ?_⟩
    clear hw
    rintro _ _ w ⟨k, rfl, hk, hlt, hw⟩
    refine NilP.mk rfl ⟨s, At.own (eqS hw) (by exact ⟨rfl, trivial⟩), Br.d (fun h5 => ?_) (fun h5 => ?_)⟩
    · have k1 : k < r.L.length := by omega
      refine NilP.mk rfl ⟨s, At.own (eqS hw) (by exact ⟨rfl, trivial⟩), ?_⟩
      refine h.hs.fld (j := 0) (eqS hw) k1 (by omega) rfl fun x nx hx => ⟨r.L[k].owner, by rw [add_zero_fld _ _ nx]; exact hx, ?_⟩
      refine Br.d (fun h6 => ?_) (fun h6 => ?_)
      · rw [wrap64 (by omega) (by omega)]
        refine ⟨⟨k + 1, by omega, by omega, fun i hi hik => ?_, hw⟩, by dsimp only; omega⟩
        by_cases hik2 : i = k
        · subst hik2; exact h6
        · exact hlt i hi (by omega)
      · exact ⟨⟨k, rfl, hk, insH_at hk hlt fun _ => h6⟩, hw⟩
    · exact ⟨⟨k, rfl, hk, insH_at hk hlt fun hk2 => by omega⟩, hw⟩
  clear hw
  rintro _ _ w ⟨⟨k, rfl, hk, hins⟩, hw⟩
  have hcap := h.cap
  have hrl := rowsH_len hl
  refine new_rule hw fun b5 w hw => NilP.mk rfl ⟨s, At.own (eqS hw) (by exact ⟨rfl, trivial⟩), by omega, by omega, ?_⟩
  refine appendN0_rule (b := b5) (ys := (rowsH r.L ts).take k) elH hw (srcRoN ⟨_, Tryz.underlying46⟩ hw (h.hs.rows.take (h := k) (by omega) s.cap) (oneAll_take k (rows_one _ _))) (h.hs.rows.wid.take) (by rw [List.length_take]; omega) (by rw [List.length_take]; omega) fun s1 w hw => ?_
  refine pushN_rule (x := rowH ⟨owner, cls, many, []⟩ ⟨none, 0, 0⟩) elH hw rfl rfl (by rw [List.length_take]; omega) (by rw [List.length_take]; omega) fun s2 w hw => ?_
  refine NilP.mk rfl ⟨s, At.own (eqS hw) (by exact ⟨rfl, trivial⟩), by omega, by omega, ?_⟩
  have hsub := h.hs.rows.sub (l := k) (h := s.len) (m := s.cap) (by omega) (by omega) (by omega)
  rw [List.take_of_length_le (show (rowsH r.L ts).length ≤ s.len by omega)] at hsub
  refine appendN_rule (ys := (rowsH r.L ts).drop k) elH hw (srcRoN ⟨_, Tryz.underlying46⟩ hw hsub (oneAll_drop k (rows_one _ _))) (h.hs.rows.wid.drop) (by simp only [List.length_append, List.length_take, List.length_drop, List.length_singleton]; omega) (by simp only [List.length_append, List.length_take, List.length_drop, List.length_singleton]; omega) fun s3 w hw => NilP.mk rfl ?_
  have hw := back _ _ hw.swap
  have hw : Sat R (pts q (rCells r sg sl s) :: OwnN 4 s 51 (rowsH r.L ts) :: OwnN 4 s3 51 ((rowsH r.L ts).take k ++ [rowH ⟨owner, cls, many, []⟩ ⟨none, 0, 0⟩] ++ (rowsH r.L ts).drop k) :: Reads sg (intsI r.grps) :: Reads sl (intsI r.lims) :: SeatsAt r.L ts :: Hs) w := hw.arr
  refine store_rule hw (by kernel_rfl) rfl (by simp [Value.cells]) fun w hw => ?_
  have hw := hw.re (pts q (rCells r sg sl s3))
  refine hK _ (Sat.rf.2 ⟨sg, sl, s3, ts.take k ++ ⟨none, 0, 0⟩ :: ts.drop k, by rw [hins]; simp; omega, ?_⟩)
  rw [hins]
  have hw : Sat R (Reads sg (intsI r.grps) :: Reads sl (intsI r.lims) :: pts q (rCells r sg sl s3) :: OwnN 4 s3 51 ((rowsH r.L ts).take k ++ [rowH ⟨owner, cls, many, []⟩ ⟨none, 0, 0⟩] ++ (rowsH r.L ts).drop k) :: SeatsAt r.L ts :: OwnN 4 s 51 (rowsH r.L ts) :: Hs) w := hw.arr
  rw [← rowsH_ins hl hk] at hw
  refine hw.cons fun _ h => h.cons fun _ h => h.cons fun _ h => h.cons fun _ h => ?_
  refine SeatsAt.ins (k := k) (h := ⟨owner, cls, many, []⟩) (t := ⟨none, 0, 0⟩) hl hk ?_
  have h5 := h.cons fun _ h => h.drop
  exact Own.reads (T := 3) (Own.nil h5)

/-! ### Give -/
theorem rgive_fspec {q : Nat} {r : RF} {owner : Int} (hll : r.L.length ≤ 1000000) (hw : Sat R (RFAt q r :: Hs) w) :
    Gets Tryz.prog 54 #[.pointer (some ⟨q, 0, none⟩), .int .i64 owner] w fun v w' => v = .int .i64 (rgiveF r owner).2 ∧ Sat R (RFAt q (rgiveF r owner).1 :: Hs) w' := by
  apply call54
  suffices H : ∀ K : Value → World → Prop, (∀ w', Sat R (RFAt q (rgiveF r owner).1 :: Hs) w' → K (.int .i64 (rgiveF r owner).2) w') → B54 (some ⟨q, 0, none⟩) owner K w from H _ fun w' h => ⟨rfl, h⟩
  intro K hK
  obtain ⟨sg, sl, s, ts, R', ee, h, hw, back, hl⟩ := Sat.rfO hw
  have hsl := h.len
  have same : ∀ {w}, Sat R' (pts q (rCells r sg sl s) :: Hs) w → Sat R (RFAt q r :: Hs) w := fun hw => Sat.rf.2 ⟨sg, sl, s, ts, hl, back _ _ hw⟩
  refine (rplace_spec h hll hw).use ?_
  clear hw
  rintro _ w ⟨rfl, hw⟩
  refine ⟨_, rfl, ?_⟩
  cases hg0 : getO owner r.L with
  | none =>
    rw [show rgiveF r owner = (r, 2) by unfold rgiveF; rw [hg0]] at hK
    refine Br.d (fun h1 => hK _ (same hw)) (fun h1 => ?_)
    rw [placeF_none 0 hg0] at h1; omega
  | some hd =>
    obtain ⟨A, C, hL, hA, hown⟩ := getO_split hg0
    have hpl : placeF owner r.L 0 = (A.length : Int) := by rw [hL, placeF_split hown 0 hA, Nat.zero_add]
    have i1 : A.length < r.L.length := by rw [hL]; simp
    rw [hpl]
    have er : rgiveF r owner = ({ r with L := r.L.take A.length ++ r.L.drop (A.length + 1) }, 0) := by
      unfold rgiveF; rw [hg0]; dsimp only
      rw [hL, mid_take, delO_app hown hA]
    rw [er] at hK
    refine Br.d (fun h1 => by omega) (fun h1 => ?_)
    have hcap := h.cap
    have hrl := rowsH_len hl
    refine drw_rule' (Sat R' [pts q (rCells r sg sl s), VC.tru]) hw (fun w hw => hw.restTru2) fun w hw => ?_
    refine NilP.mk rfl ⟨s, At.own selfS (by exact ⟨rfl, trivial⟩), by omega, by omega, NilP.mk rfl ⟨s, At.own selfS (by exact ⟨rfl, trivial⟩), ?_⟩⟩
    rw [wrap64 (by omega) (by omega)]
    have e1 : ((A.length : Int) + 1).toNat = A.length + 1 := by omega
    rw [e1]
    refine ⟨by omega, by omega, ?_⟩
    refine new_rule hw fun b5 w hw => ⟨hw.drop.restTru2, ?_⟩
    refine appendN0_rule (b := b5) (ys := (rowsH r.L ts).take A.length) elH hw (srcRoN ⟨_, Tryz.underlying46⟩ hw (h.hs.rows.take (h := A.length) (by omega) s.cap) (oneAll_take _ (rows_one _ _))) (h.hs.rows.wid.take) (by rw [List.length_take]; omega) (by rw [List.length_take]; omega) fun s1 w hw => ⟨hw.drop.restTru2, ?_⟩
    have hsub := h.hs.rows.sub (l := A.length + 1) (h := s.len) (m := s.cap) (by omega) (by omega) (by omega)
    rw [List.take_of_length_le (show (rowsH r.L ts).length ≤ s.len by omega)] at hsub
    refine appendN_rule (ys := (rowsH r.L ts).drop (A.length + 1)) elH hw (srcRoN ⟨_, Tryz.underlying46⟩ hw hsub (oneAll_drop _ (rows_one _ _))) (h.hs.rows.wid.drop) (by simp only [List.length_take, List.length_drop]; omega) (by simp only [List.length_take, List.length_drop]; omega) fun s3 w hw => ⟨hw.drop.restTru2, NilP.mk rfl ?_⟩
    have hw := back _ _ hw.swap
    have hw : Sat R (pts q (rCells r sg sl s) :: OwnN 4 s 51 (rowsH r.L ts) :: OwnN 4 s3 51 ((rowsH r.L ts).take A.length ++ (rowsH r.L ts).drop (A.length + 1)) :: Reads sg (intsI r.grps) :: Reads sl (intsI r.lims) :: SeatsAt r.L ts :: Hs) w := hw.arr
    refine store_rule hw (by kernel_rfl) rfl (by simp [Value.cells]) fun w hw => ?_
    have hw := hw.re (pts q (rCells r sg sl s3))
    refine hK _ (Sat.rf.2 ⟨sg, sl, s3, ts.take A.length ++ ts.drop (A.length + 1), by simp; omega, ?_⟩)
    have hw : Sat R (Reads sg (intsI r.grps) :: Reads sl (intsI r.lims) :: pts q (rCells r sg sl s3) :: OwnN 4 s3 51 ((rowsH r.L ts).take A.length ++ (rowsH r.L ts).drop (A.length + 1)) :: SeatsAt r.L ts :: OwnN 4 s 51 (rowsH r.L ts) :: Hs) w := hw.arr
    rw [← rowsH_del hl i1] at hw
    refine hw.cons fun _ h => h.cons fun _ h => h.cons fun _ h => h.cons fun _ h => SeatsAt.del hl i1 ?_
    exact h.cons fun _ h => h.drop

/-! ### A hold's seats, put anew -/
theorem RO.setSeats {q : Nat} {r : RF} {sg sl s : Sl} {ts : List Sl} {A C : List Hold} {hd : Hold} {t : Sl} {l : List Int} {K : World → Prop} (hl : ts.length = r.L.length) (hL : r.L = A ++ hd :: C)
    (hw : Sat R (RO q r sg sl s ts (Reads t (intsI l) :: Hs)) w) (k : ∀ w', Sat R (RFAt q { r with L := A ++ { hd with seats := l } :: C } :: Hs) w' → K w') :
    Rng (A.length : Int) s.len (NilP s.a fun a => ∃ w', ((Instr.storeAt 33 (.pointer ((some ⟨(a.add (mulS (A.length : Int).toNat 4)).block, (a.add (mulS (A.length : Int).toNat 4)).off + 3, none⟩))) (.slice t.a t.len t.cap)).run Tryz.prog w = .ok () w') ∧ K w') := by
  have i1 : A.length < r.L.length := by rw [hL]; simp
  have i2 : A.length < ts.length := by omega
  have hgi : r.L[A.length] = hd := by simp [hL]
  have hw : Sat R (OwnN 4 s 51 (rowsH r.L ts) :: Reads sg (intsI r.grps) :: Reads sl (intsI r.lims) :: pts q (rCells r sg sl s) :: Reads t (intsI l) :: SeatsAt r.L ts :: Hs) w := hw.arr
  have hw : Sat R (OwnN 4 s 51 ((r.L.zip ts).map fun x => rowH x.1 x.2) :: Reads sg (intsI r.grps) :: Reads sl (intsI r.lims) :: pts q (rCells r sg sl s) :: Reads t (intsI l) :: SeatsAt r.L ts :: Hs) w := hw
  have hz : A.length < (r.L.zip ts).length := by rw [List.length_zip]; omega
  refine (OwnN.readsM (n := 4) (s := s) (T := 51) (rows := (r.L.zip ts).map fun x => rowH x.1 x.2) hw (eqS hw)).rngM (E := r.L.zip ts) (g := fun x => rowH x.1 x.2) hz fun a ha _ => ?_
  refine OwnN.storeM (n := 4) (s := s) (T := 51) (E := r.L.zip ts) (g := fun x => rowH x.1 x.2) 3 ({ hd with seats := l }, t) hw ha hz (by kernel_rfl) rfl (by simp [Value.cells]) ?_ fun w hw => k w ?_
  · rw [List.getElem_zip, hgi]; rfl
  · rw [← zipm_set] at hw
    have hL2 : r.L.set A.length { hd with seats := l } = A ++ { hd with seats := l } :: C := by rw [hL]; exact mid_set
    rw [← hL2]
    refine Sat.rf.2 ⟨sg, sl, s, ts.set A.length t, by simp [hl], ?_⟩
    have hw : Sat R (OwnN 4 s 51 (rowsH (r.L.set A.length { hd with seats := l }) (ts.set A.length t)) :: Reads sg (intsI r.grps) :: Reads sl (intsI r.lims) :: pts q (rCells r sg sl s) :: Reads t (intsI l) :: SeatsAt r.L ts :: Hs) w := hw
    have hw : Sat R (Reads sg (intsI r.grps) :: Reads sl (intsI r.lims) :: pts q (rCells r sg sl s) :: OwnN 4 s 51 (rowsH (r.L.set A.length { hd with seats := l }) (ts.set A.length t)) :: Reads t (intsI l) :: SeatsAt r.L ts :: Hs) w := hw.arr
    exact hw.cons fun _ h => h.cons fun _ h => h.cons fun _ h => h.cons fun _ h => SeatsAt.set (h := { hd with seats := l }) hl i1 h

theorem rseat_fspec {q : Nat} {r : RF} {owner : Int} {lab : ByteArray} (hll : r.L.length ≤ 1000000) (hg : r.grps.length ≤ 1000) (hc : ∀ x ∈ r.L, x.seats.length ≤ 1000) (hw : Sat R (RFAt q r :: Hs) w) :
    Gets Tryz.prog 55 #[.pointer (some ⟨q, 0, none⟩), .int .i64 owner, .string lab] w fun v w' => v = .int .i64 (rseatF r owner lab).2 ∧ Sat R (RFAt q (rseatF r owner lab).1 :: Hs) w' := by
  apply call55
  suffices H : ∀ K : Value → World → Prop, (∀ w', Sat R (RFAt q (rseatF r owner lab).1 :: Hs) w' → K (.int .i64 (rseatF r owner lab).2) w') → B55 (some ⟨q, 0, none⟩) owner lab K w from H _ fun w' h => ⟨rfl, h⟩
  intro K hK
  obtain ⟨sg, sl, s, ts, R', ee, h, hw, back, hl⟩ := Sat.rfO hw
  have same : ∀ {w}, Sat R' (pts q (rCells r sg sl s) :: Hs) w → Sat R (RFAt q r :: Hs) w := fun hw => Sat.rf.2 ⟨sg, sl, s, ts, hl, back _ _ hw⟩
  refine (rplace_spec h hll hw).use ?_
  clear hw
  rintro _ w ⟨rfl, hw⟩
  refine ⟨_, rfl, NilP.mk rfl ⟨r.rows, sg, At.own (eqS hw) (by exact ⟨rfl, rfl, trivial⟩), ?_⟩⟩
  refine (rfind_spec (h.grps.ro (by rw [List.length_map]; omega)) hw).use ?_
  clear hw
  rintro _ w ⟨rfl, hw⟩
  refine ⟨_, _, rfl, ?_⟩
  cases hg0 : getO owner r.L with
  | none =>
    rw [show rseatF r owner lab = (r, 2) by unfold rseatF; rw [hg0]] at hK
    refine ⟨fun _ => False, Br.d (fun h1 => hK _ (same hw)) (fun h1 => ?_), fun _ _ hf => absurd hf id⟩
    rw [placeF_none 0 hg0] at h1; omega
  | some hd =>
    obtain ⟨A, C, hL, hA, hown⟩ := getO_split hg0
    have hpl : placeF owner r.L 0 = (A.length : Int) := by rw [hL, placeF_split hown 0 hA, Nat.zero_add]
    have hx := hc hd (by rw [hL]; simp)
    obtain ⟨t, it, hti, hsd, row⟩ := h.row hL
    have hro : RoI R' t hd.seats := hsd.ro (by rw [List.length_map]; omega)
    have hrl := hro.len
    have er : rseatF r owner lab = if (findT r.rows r.grps lab).2 ≠ 0 then (r, 2) else if (hd.seats.length : Int) ≥ hd.many then (r, 7)
      else if (findT r.rows r.grps lab).1 ∈ takenL r.L then (r, 3) else ({ r with L := A ++ hd.put (findT r.rows r.grps lab).1 :: C }, 0) := by
      unfold rseatF; rw [hg0]; dsimp only
      rw [show setO owner (hd.put (findT r.rows r.grps lab).1) r.L = A ++ hd.put (findT r.rows r.grps lab).1 :: C by rw [hL]; exact setO_app hown hA]
    rw [er] at hK
    rw [hpl]
    generalize (findT r.rows r.grps lab).1 = n at *
    refine ⟨fun w => (findT r.rows r.grps lab).2 = 0 ∧ Sat R' (pts q (rCells r sg sl s) :: Hs) w, Br.d (fun h1 => by omega) (fun _ => Br.ne (fun h1 => ?_) (fun h1 => ⟨h1, hw⟩)), ?_⟩
    · rw [if_pos h1] at hK; exact hK _ (same hw)
    clear hw
    rintro _ w ⟨h1, hw⟩
    rw [if_neg (by rw [h1]; simp)] at hK
    refine drw_rule hw fun w hw => ?_
    refine NilP.mk rfl ⟨s, At.own selfS (by exact ⟨rfl, trivial⟩), row (i := 3) selfS rfl fun a _ ha => ⟨t, ha, NilP.mk rfl ⟨s, At.own selfS (by exact ⟨rfl, trivial⟩), row (i := 2) selfS rfl fun a _ ha => ⟨hd.many, ha, ?_⟩⟩⟩⟩
    rw [hrl]
    refine Br.d (fun h2 => ?_) (fun h2 => ?_)
    · rw [if_pos h2] at hK; exact hK _ (same hw)
    rw [if_neg h2] at hK
    refine (rtaken_spec h hll hc hw).use ?_
    clear hw
    rintro _ w ⟨tk, rfl, hw⟩
    have htl := takenL_len hc
    obtain ⟨R2, hrk, keep, hw, back2⟩ := Own.lendI hw (by omega)
    refine ⟨tk, rfl, (has_spec hrk hw).use ?_⟩
    clear hw
    rintro _ w ⟨rfl, hw⟩
    have hw := (back2 hw).drop
    refine ⟨_, rfl, Br.d (fun h3 => ?_) (fun h3 => ?_)⟩
    · rw [if_pos h3] at hK; exact hK _ (same hw)
    rw [if_neg h3] at hK
    refine drw_rule hw fun w hw => ?_
    refine NilP.mk rfl ⟨s, At.own selfS (by exact ⟨rfl, trivial⟩), NilP.mk rfl ⟨s, At.own selfS (by exact ⟨rfl, trivial⟩), row (i := 3) selfS rfl fun a _ ha => ⟨t, ha, ?_⟩⟩⟩
    refine (rput_spec hro (by omega) (fun hn => h3 (mem_taken.2 ⟨hd, by rw [hL]; simp, hn⟩)) hw).use ?_
    clear hw
    rintro _ w ⟨t2, rfl, hw⟩
    refine ⟨t2, rfl, hw.drop, ?_⟩
    have hw := back _ _ hw.swap
    refine RO.setSeats (q := q) (r := r) (sg := sg) (sl := sl) (s := s) (ts := ts) (l := insS n hd.seats) hl hL (Hs := Hs) ?_ hK
    have hw : Sat R (Own t2 3 (intsI (insS n hd.seats)) :: RO q r sg sl s ts Hs) w := hw.arr
    exact (Own.reads hw).arr

theorem runseat_fspec {q : Nat} {r : RF} {owner : Int} {lab : ByteArray} (hll : r.L.length ≤ 1000000) (hg : r.grps.length ≤ 1000) (hc : ∀ x ∈ r.L, x.seats.length ≤ 1000) (hw : Sat R (RFAt q r :: Hs) w) :
    Gets Tryz.prog 56 #[.pointer (some ⟨q, 0, none⟩), .int .i64 owner, .string lab] w fun v w' => v = .int .i64 (runseatF r owner lab).2 ∧ Sat R (RFAt q (runseatF r owner lab).1 :: Hs) w' := by
  apply call56
  suffices H : ∀ K : Value → World → Prop, (∀ w', Sat R (RFAt q (runseatF r owner lab).1 :: Hs) w' → K (.int .i64 (runseatF r owner lab).2) w') → B56 (some ⟨q, 0, none⟩) owner lab K w from H _ fun w' h => ⟨rfl, h⟩
  intro K hK
  obtain ⟨sg, sl, s, ts, R', ee, h, hw, back, hl⟩ := Sat.rfO hw
  have same : ∀ {w}, Sat R' (pts q (rCells r sg sl s) :: Hs) w → Sat R (RFAt q r :: Hs) w := fun hw => Sat.rf.2 ⟨sg, sl, s, ts, hl, back _ _ hw⟩
  refine (rplace_spec h hll hw).use ?_
  clear hw
  rintro _ w ⟨rfl, hw⟩
  refine ⟨_, rfl, NilP.mk rfl ⟨r.rows, sg, At.own (eqS hw) (by exact ⟨rfl, rfl, trivial⟩), ?_⟩⟩
  refine (rfind_spec (h.grps.ro (by rw [List.length_map]; omega)) hw).use ?_
  clear hw
  rintro _ w ⟨rfl, hw⟩
  refine ⟨_, _, rfl, ?_⟩
  cases hg0 : getO owner r.L with
  | none =>
    rw [show runseatF r owner lab = (r, 2) by unfold runseatF; rw [hg0]] at hK
    refine ⟨fun _ => False, Br.d (fun h1 => hK _ (same hw)) (fun h1 => ?_), fun _ _ hf => absurd hf id⟩
    rw [placeF_none 0 hg0] at h1; omega
  | some hd =>
    obtain ⟨A, C, hL, hA, hown⟩ := getO_split hg0
    have hpl : placeF owner r.L 0 = (A.length : Int) := by rw [hL, placeF_split hown 0 hA, Nat.zero_add]
    have hx := hc hd (by rw [hL]; simp)
    obtain ⟨t, it, hti, hsd, row⟩ := h.row hL
    have hro : RoI R' t hd.seats := hsd.ro (by rw [List.length_map]; omega)
    have hrl := hro.len
    have er : runseatF r owner lab = if (findT r.rows r.grps lab).2 ≠ 0 then (r, 2) else if (findT r.rows r.grps lab).1 ∈ hd.seats then ({ r with L := A ++ hd.cut (findT r.rows r.grps lab).1 :: C }, 0) else (r, 2) := by
      unfold runseatF; rw [hg0]; dsimp only
      rw [show setO owner (hd.cut (findT r.rows r.grps lab).1) r.L = A ++ hd.cut (findT r.rows r.grps lab).1 :: C by rw [hL]; exact setO_app hown hA]
    rw [er] at hK
    rw [hpl]
    generalize (findT r.rows r.grps lab).1 = n at *
    refine ⟨fun w => (findT r.rows r.grps lab).2 = 0 ∧ Sat R' (pts q (rCells r sg sl s) :: Hs) w, Br.d (fun h1 => by omega) (fun _ => Br.ne (fun h1 => ?_) (fun h1 => ⟨h1, hw⟩)), ?_⟩
    · rw [if_pos h1] at hK; exact hK _ (same hw)
    clear hw
    rintro _ w ⟨h1, hw⟩
    rw [if_neg (by rw [h1]; simp)] at hK
    refine NilP.mk rfl ⟨s, At.own (eqS hw) (by exact ⟨rfl, trivial⟩), row (i := 3) (eqS hw) rfl fun a _ ha => ⟨t, ha, ?_⟩⟩
    refine (has_spec hro hw).use ?_
    clear hw
    rintro _ w ⟨rfl, hw⟩
    refine ⟨_, rfl, Br.nd (fun h2 => ?_) (fun h2 => ?_)⟩
    · rw [if_neg h2] at hK; exact hK _ (same hw)
    rw [if_pos h2] at hK
    refine ⟨fun l i w => ∃ j : Nat, i = j ∧ j ≤ hd.seats.length ∧ Sat R' (Own l 3 (intsI ((hd.seats.take j).filter fun x => !(x == n))) :: pts q (rCells r sg sl s) :: Hs) w, fun _ i _ => hd.seats.length - i.toNat, ⟨0, rfl, by omega, Own.nil hw⟩, ?_⟩
    clear hw
    rintro _ l _ w ⟨j, rfl, hj, hw⟩
    refine NilP.mk rfl ⟨s, At.own (eqS hw) (by exact ⟨rfl, trivial⟩), row (i := 3) (eqS hw) rfl fun a _ ha => ⟨t, ha, ?_⟩⟩
    refine Br.d (fun h3 => ?_) (fun h3 => ?_)
    · have hj2 : j < hd.seats.length := by omega
      have hfl : ((hd.seats.take j).filter fun x => !(x == n)).length ≤ j := Nat.le_trans (List.length_filter_le _ _) (by rw [List.length_take]; omega)
      have htk : hd.seats.take (j + 1) = hd.seats.take j ++ [hd.seats[j]] := by rw [List.take_add_one, List.getElem?_eq_getElem hj2]; rfl
      refine NilP.mk rfl ⟨s, At.own (eqS hw) (by exact ⟨rfl, trivial⟩), row (i := 3) (eqS hw) rfl fun a _ ha => ⟨t, ha, ?_⟩⟩
      refine Ro.ix hro (eqS hw) j rfl hj2 ?_
      rw [wrap64 (by omega) (by omega)]
      refine Br.ne (fun h4 => ?_) (fun h4 => ?_)
      · refine NilP.mk rfl ⟨s, At.own (eqS hw) (by exact ⟨rfl, trivial⟩), row (i := 3) (eqS hw) rfl fun a _ ha => ⟨t, ha, ?_⟩⟩
        refine Ro.ix hro (eqS hw) j rfl hj2 ?_
        refine pushI_rule elI8 hw (by omega) fun s' w hw => ?_
        refine ⟨⟨j + 1, by omega, by omega, ?_⟩, by dsimp only; omega⟩
        rw [htk, List.filter_append, show [hd.seats[j]].filter (fun x => !(x == n)) = [hd.seats[j]] by rw [List.filter_cons_of_pos (by simpa using h4)]; rfl]
        exact hw
      · refine ⟨⟨j + 1, by omega, by omega, ?_⟩, by dsimp only; omega⟩
        rw [htk, List.filter_append, show [hd.seats[j]].filter (fun x => !(x == n)) = [] by rw [List.filter_cons_of_neg (by simpa using h4)]; rfl, List.append_nil]
        exact hw
    · rw [List.take_of_length_le (by omega)] at hw
      refine NilP.mk rfl ⟨s, At.own (eqS hw) (by exact ⟨rfl, trivial⟩), ?_⟩
      have hw := back _ _ hw.swap
      refine RO.setSeats (q := q) (r := r) (sg := sg) (sl := sl) (s := s) (ts := ts) (l := hd.seats.filter fun x => !(x == n)) hl hL (Hs := Hs) ?_ hK
      have hw : Sat R (Own l 3 (intsI (hd.seats.filter fun x => !(x == n))) :: RO q r sg sl s ts Hs) w := hw.arr
      exact (Own.reads hw).arr

theorem rauto_fspec {q : Nat} {r : RF} {owner : Int} (hll : r.L.length ≤ 1000000) (hg : r.grps.length ≤ 1000) (hc : ∀ x ∈ r.L, x.seats.length ≤ 1000) (hw : Sat R (RFAt q r :: Hs) w) :
    Gets Tryz.prog 20 #[.pointer (some ⟨q, 0, none⟩), .int .i64 owner] w fun v w' => ∃ t : Sl, v = .tuple #[.slice t.a t.len t.cap, .int .i64 (rautoF r owner).2.2] ∧ Sat R (Own t 9 ((rautoF r owner).2.1.map Value.string) :: RFAt q (rautoF r owner).1 :: Hs) w' := by
  apply call20
  suffices H : ∀ K : Value → World → Prop, (∀ (t : Sl) w', Sat R (Own t 9 ((rautoF r owner).2.1.map Value.string) :: RFAt q (rautoF r owner).1 :: Hs) w' → K (.tuple #[.slice t.a t.len t.cap, .int .i64 (rautoF r owner).2.2]) w') → B20 (some ⟨q, 0, none⟩) owner K w from H _ fun t w' h => ⟨t, rfl, h⟩
  intro K hK
  obtain ⟨sg, sl, s, ts, R', ee, h, hw, back, hl⟩ := Sat.rfO hw
  have same : ∀ {w}, Sat R' (pts q (rCells r sg sl s) :: Hs) w → Sat R (Own ⟨none, 0, 0⟩ 9 [] :: RFAt q r :: Hs) w := fun hw => Own.nil (Sat.rf.2 ⟨sg, sl, s, ts, hl, back _ _ hw⟩)
  refine (rplace_spec h hll hw).use ?_
  clear hw
  rintro _ w ⟨rfl, hw⟩
  refine ⟨_, rfl, ?_⟩
  cases hg0 : getO owner r.L with
  | none =>
    rw [show rautoF r owner = (r, [], 2) by unfold rautoF; rw [hg0]] at hK
    refine Br.d (fun h1 => hK _ _ (same hw)) (fun h1 => ?_)
    rw [placeF_none 0 hg0] at h1; omega
  | some hd =>
    obtain ⟨A, C, hL, hA, hown⟩ := getO_split hg0
    have hpl : placeF owner r.L 0 = (A.length : Int) := by rw [hL, placeF_split hown 0 hA, Nat.zero_add]
    have hx := hc hd (by rw [hL]; simp)
    obtain ⟨t, it, hti, hsd, row⟩ := h.row hL
    have hro : RoI R' t hd.seats := hsd.ro (by rw [List.length_map]; omega)
    have hrl := hro.len
    have hgo := h.grps.ro (R := R') (by rw [List.length_map]; omega)
    rw [hpl]
    refine Br.d (fun h1 => by omega) (fun _ => NilP.mk rfl ⟨s, At.own (eqS hw) (by exact ⟨rfl, trivial⟩), row (i := 3) (eqS hw) rfl fun a _ ha => ⟨t, ha, ?_⟩⟩)
    rw [hrl]
    refine Br.d (fun h1 => ?_) (fun h1 => ?_)
    · rw [show rautoF r owner = (r, [], 7) by unfold rautoF; rw [hg0]; dsimp only; rw [if_pos (by omega)]] at hK
      exact hK _ _ (same hw)
    have er : rautoF r owner = if (bestT r.rows r.grps (takenL r.L) hd.many).2 = 0 then ({ r with L := A ++ { hd with seats := (bestT r.rows r.grps (takenL r.L) hd.many).1 } :: C }, labsF r.rows r.grps (bestT r.rows r.grps (takenL r.L) hd.many).1, 0) else (r, [], (bestT r.rows r.grps (takenL r.L) hd.many).2) := by
      unfold rautoF; rw [hg0]; dsimp only
      rw [if_neg (by omega), show setO owner { hd with seats := (bestT r.rows r.grps (takenL r.L) hd.many).1 } r.L = A ++ { hd with seats := (bestT r.rows r.grps (takenL r.L) hd.many).1 } :: C by rw [hL]; exact setO_app hown hA]
    rw [er] at hK
    refine drw_rule' (Sat R' [pts q (rCells r sg sl s), VC.tru]) hw (fun w hw => hw.restTru2) fun w hw => ?_
    refine NilP.mk rfl ⟨r.rows, sg, At.own selfS (by exact ⟨rfl, rfl, trivial⟩), NilP.mk rfl ⟨s, At.own selfS (by exact ⟨rfl, trivial⟩), row (i := 2) selfS rfl fun a _ ha => ⟨hd.many, ha, ?_⟩⟩⟩
    refine (rtaken_spec h hll hc hw).use ?_
    clear hw
    rintro _ w ⟨tk, rfl, hw⟩
    have htl := takenL_len hc
    refine ⟨tk, rfl, hw.drop.restTru2, ?_⟩
    obtain ⟨R2, hrk, keep, hw, back2⟩ := Own.lendI hw (by omega)
    refine (rbest_spec (keep _ _ hgo) hrk hw).use ?_
    clear hw
    rintro _ w ⟨tb, rfl, hw⟩
    have hw := (back2 hw).drop
    have hbl := best_len (n := r.rows) (g := r.grps) (taken := takenL r.L) (many := hd.many)
    generalize bestT r.rows r.grps (takenL r.L) hd.many = bt at *
    refine ⟨_, _, rfl, hw.drop.restTru2, Br.ne (fun h2 => ?_) (fun h2 => ?_)⟩
    · rw [if_neg h2] at hK; exact hK _ _ (same hw.drop)
    rw [if_pos h2] at hK
    obtain ⟨R3, e3, ht, hw⟩ := Reads.leak hw
    have hto : RoI R3 tb bt.1 := ht.ro (by rw [List.length_map]; omega)
    have htl := hto.len
    refine ⟨fun out i w => ∃ j : Nat, i = j ∧ j ≤ bt.1.length ∧ Sat R3 (Own out 9 ((labsF r.rows r.grps (bt.1.take j)).map Value.string) :: pts q (rCells r sg sl s) :: Hs) w, fun _ i _ => bt.1.length - i.toNat, ⟨0, rfl, by omega, Own.nil hw⟩, ?_⟩
    clear hw
    rintro _ out _ w ⟨j, rfl, hj, hw⟩
    refine Br.d (fun h3 => ?_) (fun h3 => ?_)
    · have hj2 : j < bt.1.length := by omega
      refine drw_rule hw fun w hw => ?_
      refine NilP.mk rfl ⟨r.rows, sg, At.own selfS (by exact ⟨rfl, rfl, trivial⟩), ?_⟩
      refine Ro.ix hto selfS j rfl hj2 ?_
      refine (rlabel_spec (e3.ro hgo) hw).use ?_
      clear hw
      rintro _ w ⟨rfl, hw⟩
      have hlab : (labsF r.rows r.grps (bt.1.take j)).length = j := by unfold labsF; rw [List.length_map, List.length_take]; omega
      refine ⟨_, _, rfl, ?_⟩
      refine push_rule elStr hw (oneAll_str _) rfl (by rw [List.length_map, hlab]; omega) (by rw [List.length_map, hlab]; omega) fun t w hw => ?_
      rw [wrap64 (by omega) (by omega)]
      refine ⟨⟨j + 1, by omega, by omega, ?_⟩, by dsimp only; omega⟩
      have e : (labsF r.rows r.grps (bt.1.take (j + 1))).map Value.string = (labsF r.rows r.grps (bt.1.take j)).map Value.string ++ [.string (labT r.rows r.grps bt.1[j]).1] := by
        unfold labsF
        rw [List.take_add_one, List.getElem?_eq_getElem hj2, Option.toList_some, List.map_append, List.map_append]
        rfl
      rw [e]; exact hw
    · rw [List.take_of_length_le (by omega)] at hw
      refine drw_rule' (Sat R3 [pts q (rCells r sg sl s), VC.tru]) hw (fun w hw => hw.drop.restTru2) fun w hw => ?_
      refine NilP.mk rfl ⟨s, At.own selfS (by exact ⟨rfl, trivial⟩), ?_⟩
      refine new_rule hw fun b5 w hw => ⟨hw.drop.drop.restTru2, ?_⟩
      refine append0_rule (b := b5) elI8 hw (srcRo Tryz.underlying33 hw hto (oneAll_ints _)) (by rw [List.length_map]; omega) (by rw [List.length_map]; omega) fun tn w hw => ⟨hw.drop.drop.restTru2, ?_⟩
      have hw := e3.back hw
      have hw : Sat R' (pts q (rCells r sg sl s) :: Own tn 3 (intsI bt.1) :: Own out 9 ((labsF r.rows r.grps bt.1).map Value.string) :: Hs) w := hw.arr
      have hw := back _ _ hw
      refine RO.setSeats (q := q) (r := r) (sg := sg) (sl := sl) (s := s) (ts := ts) (l := bt.1) hl hL (Hs := Own out 9 ((labsF r.rows r.grps bt.1).map Value.string) :: Hs) ?_ fun w' hw' => hK _ _ hw'.swap
      have hw : Sat R (Own tn 3 (intsI bt.1) :: RO q r sg sl s ts (Own out 9 ((labsF r.rows r.grps bt.1).map Value.string) :: Hs)) w := hw.arr
      exact (Own.reads hw).arr
end Go.Proofs.YtaacfjdknlglhaaGreatDoor
/- A flight: Encode. Condition: bounds on lengths. -/
namespace Go.Proofs.YtaacfjdknlglhaaGreatDoor
set_option linter.unusedVariables false
open Go Go.VC

variable {R : Cx} {Hs Rest : List HP} {w : World}

theorem HsR.row {s : Sl} {L : List Hold} {ts : List Sl} {S : World → Prop} {k : Nat} (hr : HsR R s L ts) (hS : ∀ w, S w → Sat R Hs w) (hk : k < L.length) (hk' : k < ts.length) {F : Addr → Prop}
    (f : ∀ a : Addr, At S (Addr.add a (mulS k 4)) (rowH L[k] ts[k]) → F a) : Rng (k : Int) s.len (NilP s.a F) := by
  have hl := rowsH_len hr.len
  refine (hr.rows.reads hS).rng (k := k) (by omega) fun b off ha hat => f _ ?_
  rw [elt_addr0]
  refine hat 0 _ ?_
  rw [rowsH_at hk hk']
  exact ⟨rfl, rfl, rfl, rfl, trivial⟩

def encF (f : PF) : List Int := encB f.num f.rows f.grps f.lims (holdsF f)
theorem holdsF_len (f : PF) : (holdsF f).length = f.hs.length := by unfold holdsF sortI; rw [List.length_map, List.length_mergeSort, List.length_map]

structure FSmall (f : PF) : Prop where
  num : 0 ≤ f.num ∧ f.num < 9223372036854775808
  rows : 0 ≤ f.rows ∧ f.rows < 9223372036854775808
  grps : small f.grps
  lims : small f.lims
  gl : f.grps.length ≤ 1000
  ll : f.lims.length ≤ 1000
  hs : ∀ h ∈ holdsF f, HSmall h
  hl : f.hs.length ≤ 10000

theorem encode_fspec {p : Nat} {f : PF} (sm : FSmall f) (hu : (f.hs.map (·.1)).Nodup) (hn : ∀ k ∈ f.hs.map (·.1), -1000000000 ≤ k ∧ k ≤ 1000000000) (hR : ∀ e ∈ f.hs, e.2.seats.length ≤ 1000000) (hw : Sat R (FlightAt p f :: Hs) w) :
    Gets Tryz.prog 23 #[.pointer (some ⟨p, 0, none⟩)] w fun v w' => ∃ t : Sl, v = .slice t.a t.len t.cap ∧ Sat R (Own t 5 (b8 (encF f)) :: FlightAt p f :: Hs) w' := by
  obtain ⟨hm, om, sg, sl, ss, E, R', hE, ee, rg, rl, _, hw, back⟩ := Sat.flightO hw
  have rgo : RoI R' sg f.grps := rg.ro (by rw [List.length_map]; have := sm.gl; omega)
  have rlo : RoI R' sl f.lims := rl.ro (by rw [List.length_map]; have := sm.ll; omega)
  have hel : (hPtrs E).length = f.hs.length := by rw [← hE]; simp [hPtrs, hEr]
  apply call23
  suffices H : ∀ K : Value → World → Prop, (∀ (t : Sl) w', Sat R (Own t 5 (b8 (encF f)) :: FlightAt p f :: Hs) w' → K (.slice t.a t.len t.cap) w') → B23 (some ⟨p, 0, none⟩) K w from
    H _ fun t w' h => ⟨t, rfl, h⟩
  intro K hK
  refine new_rule hw fun pb w hw => new_rule hw fun bp w hw => ?_
  have hw : Sat R' (pts bp (.cells [.nilFunc].toArray 106 (0, 0)) :: lp pb ⟨none, 0, 0⟩ :: FO p hm om sg sl ss E f Hs) w := hw
  refine store_rule hw (by kernel_rfl) rfl (by simp [Value.cells]) fun w hw => ?_
  have hw : Sat R' (putC bp pb :: lp pb ⟨none, 0, 0⟩ :: FO p hm om sg sl ss E f Hs) w := hw
  have hw : Sat R' (OutB pb [] :: putC bp pb :: FO p hm om sg sl ss E f Hs) w := Sat.outB.2 ⟨⟨none, 0, 0⟩, hw.swap.cons fun _ h => Own.nil h⟩
  have l2 : (numsB [f.num, f.rows]).length ≤ 18 := numsB_len (by intro y hy; have := sm.num; have := sm.rows; simp at hy; omega)
  have lg := listB_len sm.grps (by have := sm.gl; omega)
  have ll := listB_len sm.lims (by have := sm.ll; omega)
  have l1 : (numsB [(f.hs.length : Int)]).length ≤ 9 := numsB_len (by intro y hy; have := sm.hl; simp at hy; omega)
  have := sm.gl
  have := sm.ll
  have := sm.hl
  refine drw_rule' (Sat R' [putC bp pb, pts p (fCells f sg sl ss hm om), VC.tru]) hw (fun w hw => ?_) fun w hw => ?_
  · have hw : Sat R' (putC bp pb :: pts p (fCells f sg sl ss hm om) :: OutB pb [] :: MapAt hm (hPtrs E) :: MapAt om (oVals f.own) :: HoldsAt E :: Hs) w := hw.arr
    exact hw.cons fun _ h => h.restTru2
  refine ⟨putV pb, At.own selfS (by exact ⟨rfl, trivial⟩), NilP.mk rfl ⟨f.num, by rw [add_off]; exact At.own selfS (by exact ⟨rfl, trivial⟩), NilP.mk rfl ⟨f.rows, At.own selfS (by exact ⟨rfl, trivial⟩), ?_⟩⟩⟩
  refine new_rule hw fun bn w hw => ⟨?_, ?_⟩
  · have hw : Sat R' (putC bp pb :: pts p (fCells f sg sl ss hm om) :: OutB pb [] :: MapAt hm (hPtrs E) :: MapAt om (oVals f.own) :: HoldsAt E :: Hs) w := hw.drop.arr
    exact hw.cons fun _ h => h.restTru2
  have hw : Sat R' (pts bn (.cells ([f.num, f.rows].map (Value.int .i64)).toArray 3 (0, 0)) :: OutB pb [] :: putC bp pb :: FO p hm om sg sl ss E f Hs) w := hw
  refine (put_few (n := 2) (by rfl) (by intro y hy; have := sm.num; have := sm.rows; simp at hy; omega) (by simp) hw).mono ?_
  rintro _ w ⟨rfl, hw⟩
  rw [List.nil_append] at hw
  refine ⟨rfl, ?_, ?_⟩
  · have hw : Sat R' (putC bp pb :: pts p (fCells f sg sl ss hm om) :: OutB pb (numsB [f.num, f.rows]) :: MapAt hm (hPtrs E) :: MapAt om (oVals f.own) :: HoldsAt E :: Hs) w := hw.arr
    exact hw.cons fun _ h => h.restTru2
  refine NilP.mk rfl ⟨sg, At.own (eqS hw) (by exact ⟨rfl, trivial⟩), ?_⟩
  refine (elist_spec sm.grps (by omega) rgo hw.swap).use ?_
  rintro _ w ⟨rfl, hw⟩
  refine ⟨rfl, NilP.mk rfl ⟨sl, At.own (eqS hw) (by exact ⟨rfl, trivial⟩), ?_⟩⟩
  refine (elist_spec sm.lims (by rw [List.length_append]; omega) rlo hw).use ?_
  rintro _ w ⟨rfl, hw⟩
  refine ⟨rfl, ?_⟩
  have hb1 : (numsB [f.num, f.rows] ++ listB f.grps ++ listB f.lims).length ≤ 20000 := by rw [List.length_append, List.length_append]; omega
  have hfin : numsB [f.num, f.rows] ++ listB f.grps ++ listB f.lims ++ numsB [(f.hs.length : Int)] ++ holdsB (holdsF f) = encF f := by
    unfold encF encB; rw [holdsF_len]
  generalize hpre : numsB [f.num, f.rows] ++ listB f.grps ++ listB f.lims = pre at *
  refine drw_rule' (Sat R' [putC bp pb, pts p (fCells f sg sl ss hm om), MapAt hm (hPtrs E), VC.tru]) hw (fun w hw => ?_) fun w hw => ?_
  · have hw : Sat R' (putC bp pb :: pts p (fCells f sg sl ss hm om) :: MapAt hm (hPtrs E) :: OutB pb pre :: MapAt om (oVals f.own) :: HoldsAt E :: Hs) w := hw.arr
    exact hw.cons fun _ h => h.cons fun _ h => h.restTru2
  refine ⟨putV pb, At.own selfS (by exact ⟨rfl, trivial⟩), NilP.mk rfl ⟨some hm, At.own selfS (by exact ⟨rfl, trivial⟩), f.hs.length, fun w' h => ?_, ?_⟩⟩
  · rw [← hel]
    exact MapAt.len (by kernel_rfl) (h.take (MapAt hm (hPtrs E)))
  refine new_rule hw fun bn w hw => ⟨?_, ?_⟩
  · have hw : Sat R' (putC bp pb :: pts p (fCells f sg sl ss hm om) :: MapAt hm (hPtrs E) :: OutB pb pre :: MapAt om (oVals f.own) :: HoldsAt E :: Hs) w := hw.drop.arr
    exact hw.cons fun _ h => h.cons fun _ h => h.restTru2
  have hw : Sat R' (pts bn (.cells ([(f.hs.length : Int)].map (Value.int .i64)).toArray 3 (0, 0)) :: OutB pb pre :: putC bp pb :: FO p hm om sg sl ss E f Hs) w := hw.cons fun _ h => h.swap
  refine (put_few (n := 1) (by rfl) (by intro y hy; simp at hy; omega) (by simp; omega) hw).mono ?_
  rintro _ w ⟨rfl, hw⟩
  refine ⟨rfl, ?_, ?_⟩
  · have hw : Sat R' (putC bp pb :: pts p (fCells f sg sl ss hm om) :: MapAt hm (hPtrs E) :: OutB pb (pre ++ numsB [(f.hs.length : Int)]) :: MapAt om (oVals f.own) :: HoldsAt E :: Hs) w := hw.arr
    exact hw.cons fun _ h => h.cons fun _ h => h.restTru2
  have hw : Sat R' (FO p hm om sg sl ss E f (OutB pb (pre ++ numsB [(f.hs.length : Int)]) :: putC bp pb :: Hs)) w := hw.arr
  have hw := Sat.flightC hE (back _ _ hw)
  refine (holds_fspec hu hn (by omega) hR hw).use ?_
  rintro _ w ⟨t, rfl, hw⟩
  refine ⟨t, rfl, ?_⟩
  have hb2 : (pre ++ numsB [(f.hs.length : Int)]).length ≤ 20010 := by rw [List.length_append]; omega
  generalize pre ++ numsB [(f.hs.length : Int)] = pre2 at *
  have hLl := holdsF_len f
  have hHs := sm.hs
  generalize holdsF f = L at *
  obtain ⟨R2, ts, e2, hr, hw⟩ := HoldsL.leak hw
  have htl := hr.len
  have hrl := hr.rows.len
  rw [rowsH_len htl] at hrl
  refine ⟨fun i w => ∃ j : Nat, i = j ∧ j ≤ L.length ∧ Sat R2 (OutB pb (pre2 ++ holdsB (L.take j)) :: putC bp pb :: FlightAt p f :: Hs) w, fun i _ => L.length - i.toNat, ⟨0, rfl, by omega, ?_⟩, ?_⟩
  · rw [show pre2 ++ holdsB (L.take 0) = pre2 by simp [holdsB]]
    exact hw.arr
  clear hw
  rintro _ _ w ⟨j, rfl, hj, hw⟩
  refine Br.d (fun h => ?_) (fun h => ?_)
  · have hj2 : j < L.length := by omega
    have hj3 : j < ts.length := by omega
    have hsm := hHs L[j] (List.getElem_mem _)
    have hhl : (holdsB (L.take j)).length ≤ 9036 * 10000 := by
      have := holdsB_len (L := L.take j) fun x hx => hHs x (List.mem_of_mem_take hx)
      rw [List.length_take] at this
      have : min j L.length ≤ 10000 := by omega
      omega
    have h3 : (numsB [L[j].owner, L[j].cls, L[j].many]).length ≤ 27 := numsB_len (small_u hsm.three)
    have hsn := hsm.n
    refine hr.row (eqS hw) hj2 hj3 fun a ha => ⟨L[j].owner, L[j].cls, L[j].many, ts[j], ha, ?_⟩
    refine new_rule hw fun bh w hw => ?_
    have hw : Sat R2 (pts bh (hCells ⟨0, 0, 0, []⟩ ⟨none, 0, 0⟩) :: OutB pb (pre2 ++ holdsB (L.take j)) :: putC bp pb :: FlightAt p f :: Hs) w := hw
    refine store_rule hw (by kernel_rfl) rfl (by simp [Value.cells]) fun w hw => ?_
    have hw := hw.re (pts bh (hCells L[j] ts[j]))
    refine ⟨putV pb, At.own (eqS hw) (by exact ⟨rfl, trivial⟩), L[j].owner, At.own (eqS hw) (by exact ⟨rfl, trivial⟩), L[j].cls, At.own (eqS hw) (by exact ⟨rfl, trivial⟩), L[j].many, At.own (eqS hw) (by exact ⟨rfl, trivial⟩), ?_⟩
    refine new_rule hw fun bn w hw => ?_
    have hw : Sat R2 (pts bn (.cells ([L[j].owner, L[j].cls, L[j].many].map (Value.int .i64)).toArray 3 (0, 0)) :: OutB pb (pre2 ++ holdsB (L.take j)) :: putC bp pb :: pts bh (hCells L[j] ts[j]) :: FlightAt p f :: Hs) w := hw.cons fun _ h => h.arr
    refine (put_few (n := 3) (by rfl) hsm.three (by rw [List.length_append]; simp; omega) hw).mono ?_
    rintro _ w ⟨rfl, hw⟩
    refine ⟨rfl, ts[j], At.own (eqS hw) (by exact ⟨rfl, trivial⟩), ?_⟩
    refine (elist_spec hsm.s (by rw [List.length_append, List.length_append]; omega) ((hr.seats j hj2 hj3).ro (by rw [List.length_map]; omega)) hw.swap).use ?_
    rintro _ w ⟨rfl, hw⟩
    refine ⟨rfl, ?_⟩
    rw [wrap64 (by omega) (by omega)]
    refine ⟨⟨j + 1, by omega, by omega, ?_⟩, by dsimp only; omega⟩
    rw [holdsB_take hj2, ← List.append_assoc]
    unfold holdB
    rw [← List.append_assoc]
    have hw : Sat R2 (pts bh (hCells L[j] ts[j]) :: OutB pb (pre2 ++ holdsB (L.take j) ++ numsB [L[j].owner, L[j].cls, L[j].many] ++ listB L[j].seats) :: putC bp pb :: FlightAt p f :: Hs) w := hw.arr
    exact hw.drop
  · rw [List.take_of_length_le (by omega), hfin] at hw
    have hw := e2.back hw
    obtain ⟨s0, hw⟩ := Sat.outB.1 hw
    refine ⟨s0, At.own (eqS hw) (by exact ⟨rfl, trivial⟩), hK s0 w ?_⟩
    have hw : Sat R (putC bp pb :: lp pb s0 :: Own s0 5 (b8 (encF f)) :: FlightAt p f :: Hs) w := hw.arr
    exact hw.drop.drop
end Go.Proofs.YtaacfjdknlglhaaGreatDoor
/- A flight out of bytes: reading numbers and lists; a hold put in again. Condition: bounds on lengths. -/
namespace Go.Proofs.YtaacfjdknlglhaaGreatDoor
set_option linter.unusedVariables false
open Go Go.VC

variable {R : Cx} {Hs Rest : List HP} {w : World}

/-! ### Plain -/
def nMany : Nat → Int → Rd → List Int × Rd
  | 0, _, r => ([], r)
  | k + 1, most, r => ((rdNum most r).1 :: (nMany k most (rdNum most r).2).1, (nMany k most (rdNum most r).2).2)
theorem nMany_snoc : ∀ (k : Nat) (most : Int) (r : Rd), nMany (k + 1) most r = ((nMany k most r).1 ++ [(rdNum most (nMany k most r).2).1], (rdNum most (nMany k most r).2).2)
  | 0, _, _ => rfl
  | k + 1, most, r => by
    have := nMany_snoc k most (rdNum most r).2
    show ((rdNum most r).1 :: (nMany (k + 1) most (rdNum most r).2).1, (nMany (k + 1) most (rdNum most r).2).2) = _
    rw [this]; rfl
theorem nMany_len : ∀ (k : Nat) (most : Int) (r : Rd), (nMany k most r).1.length = k
  | 0, _, _ => rfl
  | k + 1, most, r => by show (_ :: (nMany k most (rdNum most r).2).1).length = _; rw [List.length_cons, nMany_len k]
theorem nMany_bd : ∀ (k : Nat) (most : Int) {r : Rd}, (∀ x ∈ r.bs, 0 ≤ x ∧ x < 256) → ∀ x ∈ (nMany k most r).2.bs, 0 ≤ x ∧ x < 256
  | 0, _, _, h => h
  | k + 1, most, _, h => nMany_bd k most (rdNum_bd h)
theorem nMany_val : ∀ (k : Nat) {most : Int} {r : Rd}, 0 ≤ most → (∀ x ∈ r.bs, 0 ≤ x ∧ x < 256) → ∀ x ∈ (nMany k most r).1, 0 ≤ x ∧ x ≤ most
  | 0, _, _, _, _ => by simp [nMany]
  | k + 1, most, r, hm, h => fun x hx => by
    rcases List.mem_cons.1 hx with rfl | hx
    · exact rdNum_val h hm
    · exact nMany_val k hm (rdNum_bd h) x hx
def nList (most each : Int) (r : Rd) : List Int × Rd := nMany (rdNum most r).1.toNat each (rdNum most r).2
theorem nList_bd {most each : Int} {r : Rd} (h : ∀ x ∈ r.bs, 0 ≤ x ∧ x < 256) : ∀ x ∈ (nList most each r).2.bs, 0 ≤ x ∧ x < 256 := nMany_bd _ _ (rdNum_bd h)
theorem nList_val {most each : Int} {r : Rd} (h : ∀ x ∈ r.bs, 0 ≤ x ∧ x < 256) (hm : 0 ≤ most) (he : 0 ≤ each) : (∀ x ∈ (nList most each r).1, 0 ≤ x ∧ x ≤ each) ∧ ((nList most each r).1.length : Int) ≤ most := by
  refine ⟨nMany_val _ he (rdNum_bd h), ?_⟩
  unfold nList
  rw [nMany_len]
  have := rdNum_val h hm
  omega

/-! ### A number, a list -/
theorem dnum_spec {br r : Nat} {rd : Rd} {most : Int} (h0 : 0 ≤ most) (h1 : most < 9223372036854775808) (hb : ∀ x ∈ rd.bs, 0 ≤ x ∧ x < 256) (hw : Sat R (pts br (brCell r) :: RdAt r rd :: Hs) w) :
    Gets Tryz.prog 31 #[.int .i64 most, .pointer (some ⟨br, 0, none⟩)] w fun v w' => v = .int .i64 (rdNum most rd).1 ∧ Sat R (pts br (brCell r) :: RdAt r (rdNum most rd).2 :: Hs) w' := by
  have hv := rdNum_val (most := most) hb h0
  apply call31
  refine NilP.mk rfl ⟨some ⟨r, 0, none⟩, At.own (eqS hw) (by exact ⟨rfl, trivial⟩), ?_⟩
  rw [wrapU64 (by omega) (by omega)]
  refine (rnum_spec (most := most) hb hw.swap).use ?_
  rintro _ w ⟨rfl, hw⟩
  refine ⟨_, rfl, ?_, hw.swap⟩
  rw [wrap64 (by omega) (by omega)]
abbrev numV (br : Nat) : Value := .func (.func 31) #[] #[.pointer (some ⟨br, 0, none⟩)]
abbrev numC (bn br : Nat) : HP := pts bn (.cells [numV br].toArray 72 (0, 0))
theorem cnum_spec {br r : Nat} {rd : Rd} {most : Int} (h0 : 0 ≤ most) (h1 : most < 9223372036854775808) (hb : ∀ x ∈ rd.bs, 0 ≤ x ∧ x < 256) (hw : Sat R (pts br (brCell r) :: RdAt r rd :: Hs) w) :
    CalW Tryz.prog cl (numV br) [.int .i64 most] w fun e w' => e = .returned (.int .i64 (rdNum most rd).1) ∧ Sat R (pts br (brCell r) :: RdAt r (rdNum most rd).2 :: Hs) w' :=
  CalW.mk (by kernel_rfl) ((dnum_spec h0 h1 hb hw).use fun v w' h => ⟨by rw [h.1], h.2⟩)

theorem dlist_spec {bn br r : Nat} {rd : Rd} {most each : Int} (h0 : 0 ≤ most) (h1 : most < 1000000) (h2 : 0 ≤ each) (h3 : each < 9223372036854775808) (hb : ∀ x ∈ rd.bs, 0 ≤ x ∧ x < 256) (hw : Sat R (numC bn br :: pts br (brCell r) :: RdAt r rd :: Hs) w) :
    Gets Tryz.prog 33 #[.int .i64 most, .int .i64 each, .pointer (some ⟨bn, 0, none⟩)] w fun v w' => ∃ t : Sl, v = .slice t.a t.len t.cap ∧ Sat R (Own t 3 (intsI (nList most each rd).1) :: numC bn br :: pts br (brCell r) :: RdAt r (nList most each rd).2 :: Hs) w' := by
  apply call33
  refine NilP.mk rfl ⟨numV br, At.own (eqS hw) (by exact ⟨rfl, trivial⟩), ?_⟩
  refine (cnum_spec h0 (by omega) hb (hw.take (pts br (brCell r)) |> fun h => h.arr (Hs' := pts br (brCell r) :: RdAt r rd :: numC bn br :: Hs))).mono ?_
  clear hw
  rintro _ w ⟨rfl, hw⟩
  refine ⟨_, rfl, ?_⟩
  have hv := rdNum_val (most := most) hb h0
  have hb1 := rdNum_bd (most := most) hb
  obtain ⟨n, hn⟩ := Int.eq_ofNat_of_zero_le hv.1
  have hrl : nList most each rd = nMany n each (rdNum most rd).2 := by unfold nList; rw [hn]; rfl
  rw [hrl, hn]
  rw [hn] at hv
  generalize (rdNum most rd).2 = rd1 at *
  refine ⟨fun out i w => ∃ k : Nat, i = k ∧ k ≤ n ∧ Sat R (Own out 3 (intsI (nMany k each rd1).1) :: pts br (brCell r) :: RdAt r (nMany k each rd1).2 :: numC bn br :: Hs) w, fun _ i _ => n - i.toNat, ⟨0, rfl, by omega, Own.nil hw⟩, ?_⟩
  clear hw
  rintro _ out _ w ⟨k, rfl, hk, hw⟩
  refine Br.d (fun h => ?_) (fun h => ?_)
  · refine NilP.mk rfl ⟨numV br, At.own (eqS hw) (by exact ⟨rfl, trivial⟩), ?_⟩
    have hbk := nMany_bd k each hb1
    have hw : Sat R (pts br (brCell r) :: RdAt r (nMany k each rd1).2 :: Own out 3 (intsI (nMany k each rd1).1) :: numC bn br :: Hs) w := hw.arr
    refine (cnum_spec h2 h3 hbk hw).mono ?_
    rintro _ w ⟨rfl, hw⟩
    refine ⟨_, rfl, ?_⟩
    have hml := nMany_len k each rd1
    have hw : Sat R (Own out 3 (intsI (nMany k each rd1).1) :: pts br (brCell r) :: RdAt r (rdNum each (nMany k each rd1).2).2 :: numC bn br :: Hs) w := hw.arr
    refine pushI_rule elI8 hw (by omega) fun s' w hw => ?_
    rw [wrap64 (by omega) (by omega)]
    refine ⟨⟨k + 1, by omega, by omega, ?_⟩, by dsimp only; omega⟩
    rw [nMany_snoc]
    exact hw
  · have : k = n := by omega
    subst this
    exact ⟨out, rfl, hw.arr⟩

/-! ### A hold put in again -/
def tellF (f : PF) (o n : Int) : PF :=
  match getM o f.hs with
  | none => f
  | some h => { f with hs := setM o (h.put n) f.hs, own := putM n h.owner f.own }
def resGo (o N : Int) : List Int → Int → PF → PF × Bool
  | [], _, f => (f, true)
  | n :: l, last, f => if (getM n f.own).isSome then (f, false) else if n ≤ last then (f, false) else if n ≥ N then (f, false) else resGo o N l n (tellF f o n)
theorem resGo_cons (o N n last : Int) (l : List Int) (f : PF) : resGo o N (n :: l) last f = if (getM n f.own).isSome then (f, false) else if n ≤ last then (f, false) else if n ≥ N then (f, false) else resGo o N l n (tellF f o n) := rfl
def restoreF (f : PF) (h : Hold) : PF × Bool :=
  if (takeF f h.owner h.cls h.many).2 ≠ 0 then ((takeF f h.owner h.cls h.many).1, false)
  else if (h.seats.length : Int) > h.many then ((takeF f h.owner h.cls h.many).1, false)
  else resGo h.owner (layN f.rows f.grps) h.seats (-1) (takeF f h.owner h.cls h.many).1

theorem takeF_same (f : PF) (o c m : Int) : (takeF f o c m).1.rows = f.rows ∧ (takeF f o c m).1.grps = f.grps := by
  unfold takeF
  split
  · exact ⟨rfl, rfl⟩
  · split
    · exact ⟨rfl, rfl⟩
    · split <;> exact ⟨rfl, rfl⟩
theorem takeF_has {f : PF} {o c m : Int} (h : (takeF f o c m).2 = 0) : getM o (takeF f o c m).1.hs = some ⟨o, c, m, []⟩ := by
  unfold takeF at h ⊢
  split at h
  · cases h
  rename_i h1
  split at h
  · cases h
  rename_i h2
  rw [if_neg h1, if_neg h2]
  split at h
  · rename_i h3
    rw [if_pos h3]
    show getM o (f.hs ++ _) = _
    rw [getM_app2, if_neg (fun hm => h2 (getM_mem.2 hm)), getM_cons, if_pos rfl]
  · rename_i h3; exact absurd h h3

theorem restore_fspec {p : Nat} {f : PF} {h : Hold} {s : Sl} (hll : f.lims.length ≤ 1000) (hls : f.sold.length ≤ 1000) (hgl : f.grps.length ≤ 1000) (hs : RoI R s h.seats) (hsl : h.seats.length ≤ 1000000) (hw : Sat R (FlightAt p f :: Hs) w) :
    Gets Tryz.prog 38 #[.pointer (some ⟨p, 0, none⟩), .agg #[.int .i64 h.owner, .int .i64 h.cls, .int .i64 h.many, .slice s.a s.len s.cap]] w fun v w' => v = .bool (restoreF f h).2 ∧ Sat R (FlightAt p (restoreF f h).1 :: Hs) w' := by
  have hslen := hs.len
  apply call38
  suffices H : ∀ K : Value → World → Prop, (∀ w', Sat R (FlightAt p (restoreF f h).1 :: Hs) w' → K (.bool (restoreF f h).2) w') → B38 (some ⟨p, 0, none⟩) h.owner h.cls h.many s K w from
    H _ fun w' h => ⟨rfl, h⟩
  intro K hK
  refine new_rule hw fun bh w hw => ?_
  have hw : Sat R (pts bh (hCells h s) :: FlightAt p f :: Hs) w := hw
  refine ⟨fun w => ((takeF f h.owner h.cls h.many).2 = 0 ∧ ¬ (h.seats.length : Int) > h.many) ∧ Sat R (pts bh (hCells h s) :: FlightAt p (takeF f h.owner h.cls h.many).1 :: Hs) w, ?_, ?_⟩
  · refine ⟨h.owner, At.own (eqS hw) (by exact ⟨rfl, trivial⟩), h.cls, At.own (eqS hw) (by exact ⟨rfl, trivial⟩), h.many, At.own (eqS hw) (by exact ⟨rfl, trivial⟩), ?_⟩
    refine (take_fspec hll hls hw.swap).use ?_
    clear hw
    rintro _ w ⟨rfl, hw⟩
    refine ⟨_, rfl, Br.ne (fun h1 => ?_) (fun h1 => ?_)⟩
    · have e : restoreF f h = ((takeF f h.owner h.cls h.many).1, false) := by unfold restoreF; rw [if_pos h1]
      rw [e] at hK
      exact hK _ (hw.swap.drop)
    have hw := hw.swap
    refine ⟨s, At.own (eqS hw) (by exact ⟨rfl, trivial⟩), h.many, At.own (eqS hw) (by exact ⟨rfl, trivial⟩), ?_⟩
    rw [hslen]
    refine Br.d (fun h2 => ?_) (fun h2 => ⟨⟨h1, h2⟩, hw⟩)
    have e : restoreF f h = ((takeF f h.owner h.cls h.many).1, false) := by unfold restoreF; rw [if_neg (by rw [h1]; simp), if_pos h2]
    rw [e] at hK
    exact hK _ hw.drop
  clear hw
  rintro _ w ⟨⟨h1, h2⟩, hw⟩
  have hre : restoreF f h = resGo h.owner (layN f.rows f.grps) h.seats (-1) (takeF f h.owner h.cls h.many).1 := by unfold restoreF; rw [if_neg (by rw [h1]; simp), if_neg h2]
  have hhas := takeF_has h1
  obtain ⟨hr0, hg0⟩ := takeF_same f h.owner h.cls h.many
  rw [hre] at hK
  generalize (takeF f h.owner h.cls h.many).1 = f0 at *
  refine ⟨s, At.own (eqS hw) (by exact ⟨rfl, trivial⟩), ?_⟩
  refine ⟨fun last i w => ∃ (j : Nat) (f1 : PF) (h1 : Hold), i = j ∧ j ≤ h.seats.length ∧ (f1.rows = f.rows ∧ f1.grps = f.grps) ∧ getM h.owner f1.hs = some h1 ∧ (h1.seats.length = j ∧ h1.seats.Pairwise (· < ·) ∧ ∀ x ∈ h1.seats, x ≤ last) ∧
    resGo h.owner (layN f.rows f.grps) (h.seats.drop j) last f1 = resGo h.owner (layN f.rows f.grps) h.seats (-1) f0 ∧ Sat R (pts bh (hCells h s) :: FlightAt p f1 :: Hs) w, fun _ i _ => h.seats.length - i.toNat,
    ⟨0, f0, ⟨h.owner, h.cls, h.many, []⟩, rfl, by omega, ⟨hr0, hg0⟩, hhas, ⟨rfl, List.Pairwise.nil, fun x hx => by cases hx⟩, rfl, hw⟩, ?_⟩
  clear hw hhas hr0 hg0
  rintro _ last _ w ⟨j, f1, h1', rfl, hj, ⟨hr1, hg1⟩, hhas, ⟨hl1, hp1, hx1⟩, hgo, hw⟩
  refine Br.d (fun h3 => ?_) (fun h3 => ?_)
  · have hj2 : j < h.seats.length := by omega
    rw [List.drop_eq_getElem_cons hj2, resGo_cons] at hgo
    refine Ro.ix hs (eqS hw) j rfl hj2 ?_
    generalize h.seats[j] = n at *
    have bad : (f1, false) = resGo h.owner (layN f.rows f.grps) h.seats (-1) f0 → ∀ {w}, Sat R (pts bh (hCells h s) :: FlightAt p f1 :: Hs) w → K (.bool false) w := fun e w hw => by
      rw [← e] at hK
      exact hK _ hw.drop
    obtain ⟨hm, om, sg, sl, ss, E, R', hE, ee, rg, _, _, hw, back⟩ := Sat.flightO hw.swap
    have rgo : RoI R' sg f1.grps := rg.ro (by rw [List.length_map, hg1]; omega)
    have same : ∀ {w}, Sat R' (FO p hm om sg sl ss E f1 (pts bh (hCells h s) :: Hs)) w → Sat R (pts bh (hCells h s) :: FlightAt p f1 :: Hs) w := fun hw => (Sat.flightC hE (back _ _ hw)).swap
    refine ⟨fun w => (¬ (getM n f1.own).isSome = true ∧ ¬ n ≤ last ∧ ¬ n ≥ layN f.rows f.grps) ∧ Sat R' (FO p hm om sg sl ss E f1 (pts bh (hCells h s) :: Hs)) w, ?_, ?_⟩
    · refine NilP.mk rfl ⟨some om, At.own (eqS hw) (by exact ⟨rfl, trivial⟩), (getM n f1.own).getD 0, (getM n f1.own).isSome, fun w' e => by rw [show w' = w from e]; exact own_look (hw.take (MapAt om (oVals f1.own))) n true, ?_⟩
      refine Br.mk (fun h4 => ?_) (fun h4 => ?_)
      · rw [if_pos h4] at hgo; exact bad hgo (same hw)
      rw [if_neg (by rw [h4]; simp)] at hgo
      refine Br.d (fun h5 => ?_) (fun h5 => ?_)
      · rw [if_pos h5] at hgo; exact bad hgo (same hw)
      rw [if_neg h5] at hgo
      refine NilP.mk rfl ⟨f1.rows, sg, At.own (eqS hw) (by exact ⟨rfl, rfl, trivial⟩), ?_⟩
      refine (count_spec rgo hw).use ?_
      clear hw
      rintro _ w ⟨rfl, hw⟩
      refine ⟨_, rfl, ?_⟩
      rw [hr1, hg1]
      refine Br.d (fun h6 => ?_) (fun h6 => ⟨⟨by rw [h4]; simp, h5, h6⟩, hw⟩)
      rw [if_pos h6] at hgo; exact bad hgo (same hw)
    clear hw
    rintro _ w ⟨⟨h4, h5, h6⟩, hw⟩
    rw [if_neg h4, if_neg h5, if_neg h6] at hgo
    have hgE : (getM h.owner E).map (·.2) = some h1' := by rw [← hEr_get, hE]; exact hhas
    obtain ⟨⟨b, hx⟩, hgE2, rfl⟩ := Option.map_eq_some_iff.1 hgE
    obtain ⟨a, c, rfl, hna⟩ := getM_split hgE2
    have sx : ∀ {own : List (Int × Int)} {E2 : List HE} {w}, hPtrs E2 = hPtrs (a ++ (h.owner, b, hx) :: c) → Sat R' (FO p hm om sg sl ss E2 { f1 with own := own } (pts bh (hCells h s) :: Hs)) w → Sat R' [pts p (fCells f1 sg sl ss hm om), pts bh (hCells h s), MapAt hm (hPtrs (a ++ (h.owner, b, hx) :: c)), VC.tru] w := fun {own E2 w} e1 hw => by
      have hw : Sat R' (pts p (fCells f1 sg sl ss hm om) :: pts bh (hCells h s) :: MapAt hm (hPtrs E2) :: MapAt om (oVals own) :: HoldsAt E2 :: Hs) w := hw.arr
      rw [e1] at hw
      exact hw.cons fun _ h => h.cons fun _ h => h.restTru2
    refine drw_rule' (Sat R' [pts p (fCells f1 sg sl ss hm om), pts bh (hCells h s), MapAt hm (hPtrs (a ++ (h.owner, b, hx) :: c)), VC.tru]) hw (fun w hw => sx (own := f1.own) rfl hw) fun w hw => ?_
    refine NilP.mk rfl ⟨some hm, At.own selfS (by exact ⟨rfl, trivial⟩), h.owner, At.own selfS (by exact ⟨rfl, trivial⟩), some ⟨b, 0, none⟩, fun w' h7 => ?_, ?_⟩
    · rw [hold_look (h7.take (MapAt hm (hPtrs (a ++ (h.owner, b, hx) :: c)))) h.owner false, hgE2]; rfl
    refine (tell_spec (rise_iff.2 hp1) (by omega) hw).use ?_
    rintro _ w ⟨rfl, hw⟩
    refine ⟨rfl, sx (E2 := a ++ (h.owner, b, hx.put n) :: c) (by simp [hPtrs]) hw, ?_⟩
    have hins : insS n hx.seats = hx.seats ++ [n] := insS_end fun x hxx => by have := hx1 x hxx; omega
    have hset : setM h.owner (hx.put n) f1.hs = hEr (a ++ (h.owner, b, hx.put n) :: c) := by
      rw [← hE, hEr_app, hEr_app, setM_app (by rw [hEr_get, hna]; rfl) (int_rfl h.owner)]
    have htell : tellF f1 h.owner n = { f1 with hs := setM h.owner (hx.put n) f1.hs, own := putM n hx.owner f1.own } := by unfold tellF; rw [hhas]
    rw [wrap64 (by omega) (by omega)]
    refine ⟨⟨j + 1, tellF f1 h.owner n, hx.put n, by omega, by omega, ?_, ?_, ⟨?_, ?_, ?_⟩, hgo, ?_⟩, by dsimp only; omega⟩
    · rw [htell]; exact ⟨hr1, hg1⟩
    · rw [htell]
      show getM h.owner (setM h.owner (hx.put n) f1.hs) = _
      rw [getM_setM (by rw [hhas]; rfl), if_pos rfl]
    · show (insS n hx.seats).length = _
      rw [hins, List.length_append]; simp; exact hl1
    · show (insS n hx.seats).Pairwise _
      rw [hins, List.pairwise_append]
      exact ⟨hp1, by simp, fun x hxx y hy => by rw [List.mem_singleton.1 hy]; have := hx1 x hxx; omega⟩
    · intro x hxx
      have hxx : x ∈ insS n hx.seats := hxx
      rcases mem_insS.1 hxx with rfl | hxx
      · exact Int.le_refl _
      · have := hx1 x hxx; omega
    · rw [htell]
      refine (Sat.flight.2 ⟨hm, om, sg, sl, ss, a ++ (h.owner, b, hx.put n) :: c, hset.symm, back _ _ hw⟩ : Sat R (FlightAt p { f1 with hs := setM h.owner (hx.put n) f1.hs, own := putM n hx.owner f1.own } :: pts bh (hCells h s) :: Hs) w).swap
  · rw [List.drop_eq_nil_of_le (by omega)] at hgo
    have hgo : (f1, true) = _ := hgo
    rw [← hgo] at hK
    exact hK _ hw.drop
end Go.Proofs.YtaacfjdknlglhaaGreatDoor
/- A flight: Decode. Condition: bounds on lengths. -/
namespace Go.Proofs.YtaacfjdknlglhaaGreatDoor
set_option linter.unusedVariables false
open Go Go.VC

variable {R : Cx} {Hs Rest : List HP} {w : World}

/-! ### Plain -/
def readH (rd : Rd) : Hold × Rd :=
  (⟨(rdNum 28629151 rd).1, (rdNum 8 (rdNum 28629151 rd).2).1, (rdNum 600 (rdNum 8 (rdNum 28629151 rd).2).2).1, (nList 600 600 (rdNum 600 (rdNum 8 (rdNum 28629151 rd).2).2).2).1⟩, (nList 600 600 (rdNum 600 (rdNum 8 (rdNum 28629151 rd).2).2).2).2)
def readHs : Nat → Rd → List Hold × Rd
  | 0, rd => ([], rd)
  | k + 1, rd => ((readH rd).1 :: (readHs k (readH rd).2).1, (readHs k (readH rd).2).2)
theorem readHs_snoc : ∀ (k : Nat) (rd : Rd), readHs (k + 1) rd = ((readHs k rd).1 ++ [(readH (readHs k rd).2).1], (readH (readHs k rd).2).2)
  | 0, _ => rfl
  | k + 1, rd => by
    have := readHs_snoc k (readH rd).2
    show ((readH rd).1 :: (readHs (k + 1) (readH rd).2).1, (readHs (k + 1) (readH rd).2).2) = _
    rw [this]; rfl
theorem readH_bd {rd : Rd} (h : ∀ x ∈ rd.bs, 0 ≤ x ∧ x < 256) : ∀ x ∈ (readH rd).2.bs, 0 ≤ x ∧ x < 256 := nList_bd (rdNum_bd (rdNum_bd (rdNum_bd h)))
theorem readHs_bd : ∀ (k : Nat) {rd : Rd}, (∀ x ∈ rd.bs, 0 ≤ x ∧ x < 256) → ∀ x ∈ (readHs k rd).2.bs, 0 ≤ x ∧ x < 256
  | 0, _, h => h
  | k + 1, _, h => readHs_bd k (readH_bd h)
structure HoldIn (h : Hold) : Prop where
  o : 0 ≤ h.owner ∧ h.owner ≤ 28629151
  c : 0 ≤ h.cls ∧ h.cls ≤ 8
  m : 0 ≤ h.many ∧ h.many ≤ 600
  s : ∀ x ∈ h.seats, 0 ≤ x ∧ x ≤ 600
  n : h.seats.length ≤ 600
theorem readH_val {rd : Rd} (h : ∀ x ∈ rd.bs, 0 ≤ x ∧ x < 256) : HoldIn (readH rd).1 := by
  have h1 := rdNum_bd (most := 28629151) h
  have h2 := rdNum_bd (most := 8) h1
  have h3 := rdNum_bd (most := 600) h2
  have hl := nList_val (most := 600) (each := 600) h3 (by omega) (by omega)
  exact ⟨rdNum_val h (by omega), rdNum_val h1 (by omega), rdNum_val h2 (by omega), hl.1, by have := hl.2; show (nList _ _ _).1.length ≤ 600; omega⟩
theorem readHs_val : ∀ (k : Nat) {rd : Rd}, (∀ x ∈ rd.bs, 0 ≤ x ∧ x < 256) → (∀ h ∈ (readHs k rd).1, HoldIn h) ∧ (readHs k rd).1.length = k
  | 0, _, _ => ⟨fun h hh => (by cases hh), rfl⟩
  | k + 1, rd, h => by
    obtain ⟨h1, h2⟩ := readHs_val k (readH_bd h)
    refine ⟨fun x hx => ?_, by show ((readH rd).1 :: _).length = _; rw [List.length_cons, h2]⟩
    have hx : x ∈ (readH rd).1 :: (readHs k (readH rd).2).1 := hx
    rcases List.mem_cons.1 hx with rfl | hx
    · exact readH_val h
    · exact h1 x hx

abbrev PS := PF × Bool × Int
def stepD (x : PS) (h : Hold) : PS := if x.2.1 = true ∧ h.owner > x.2.2 then ((restoreF x.1 h).1, (restoreF x.1 h).2, h.owner) else (x.1, false, h.owner)
def fine0 (num rows : Int) (grps lims : List Int) : Bool := decide (num > 0) && (layOk rows grps && (nestOk lims (List.replicate lims.length 0) && (lims.getD 0 0 == layN rows grps)))
structure Raw where
  num : Int
  rows : Int
  grps : List Int
  lims : List Int
  L : List Hold
  rd : Rd
def rawD (bs : List Int) : Raw :=
  let a := rdNum 9999 ⟨bs, false⟩
  let b := rdNum 60 a.2
  let g := nList 4 10 b.2
  let l := nList 8 10000 g.2
  let n := rdNum 600 l.2
  let x := readHs n.1.toNat n.2
  ⟨a.1, b.1, g.1, l.1, x.1, x.2⟩
def Raw.run (x : Raw) : PS := x.L.foldl stepD (emptyF x.num x.rows x.grps x.lims, fine0 x.num x.rows x.grps x.lims, 0)
def decF (bs : List Int) : Option PF := if rdWhole (rawD bs).rd = true ∧ (rawD bs).run.2.1 = true then some (rawD bs).run.1 else none

structure KeepF (f f' : PF) : Prop where
  lims : f'.lims = f.lims
  grps : f'.grps = f.grps
  rows : f'.rows = f.rows
  num : f'.num = f.num
  sold : f'.sold.length = f.sold.length
theorem KeepF.refl (f : PF) : KeepF f f := ⟨rfl, rfl, rfl, rfl, rfl⟩
theorem KeepF.trans {f f' f'' : PF} (a : KeepF f f') (b : KeepF f' f'') : KeepF f f'' := ⟨b.lims.trans a.lims, b.grps.trans a.grps, b.rows.trans a.rows, b.num.trans a.num, b.sold.trans a.sold⟩
theorem takeF_keep (f : PF) (o c m : Int) : KeepF f (takeF f o c m).1 := by
  unfold takeF
  split
  · exact .refl f
  · split
    · exact .refl f
    · split
      · rename_i h
        refine ⟨rfl, rfl, rfl, rfl, ?_⟩
        show (sellT f.lims f.sold c m).1.length = _
        rw [(nest_sell h).1, List.length_set]
      · exact .refl f
theorem tellF_keep (f : PF) (o n : Int) : KeepF f (tellF f o n) := by
  unfold tellF
  split <;> exact ⟨rfl, rfl, rfl, rfl, rfl⟩
theorem resGo_keep (o N : Int) : ∀ (l : List Int) (last : Int) (f : PF), KeepF f (resGo o N l last f).1
  | [], _, f => .refl f
  | n :: l, last, f => by
    rw [resGo_cons]
    split
    · exact .refl f
    · split
      · exact .refl f
      · split
        · exact .refl f
        · exact (tellF_keep f o n).trans (resGo_keep o N l n _)
theorem restoreF_keep (f : PF) (h : Hold) : KeepF f (restoreF f h).1 := by
  unfold restoreF
  split
  · exact takeF_keep ..
  · split
    · exact takeF_keep ..
    · exact (takeF_keep ..).trans (resGo_keep ..)
theorem stepD_keep (x : PS) (h : Hold) : KeepF x.1 (stepD x h).1 := by
  unfold stepD
  split
  · exact restoreF_keep ..
  · exact .refl _
theorem foldD_keep : ∀ (L : List Hold) (x : PS), KeepF x.1 (L.foldl stepD x).1
  | [], x => .refl _
  | h :: L, x => (stepD_keep x h).trans (foldD_keep L (stepD x h))

abbrev emH : Obj := hCells ⟨0, 0, 0, []⟩ ⟨none, 0, 0⟩

theorem readh_spec {bn br r p : Nat} {rd : Rd} {f : PF} {K : Option Addr → World → Prop} (hb : ∀ x ∈ rd.bs, 0 ≤ x ∧ x < 256) (hw : Sat R (numC bn br :: pts br (brCell r) :: RdAt r rd :: FlightAt p f :: Hs) w)
    (k : ∀ b w', Sat R (pts b (hCells ⟨(rdNum 28629151 rd).1, (rdNum 8 (rdNum 28629151 rd).2).1, (rdNum 600 (rdNum 8 (rdNum 28629151 rd).2).2).1, []⟩ ⟨none, 0, 0⟩) :: numC bn br :: pts br (brCell r) :: RdAt r (rdNum 600 (rdNum 8 (rdNum 28629151 rd).2).2).2 :: FlightAt p f :: Hs) w' → K (some ⟨b, 0, none⟩) w') :
   Drw w fun S_2 w_23 =>
      ∃ t82 : Value, (At S_2 ⟨bn, 0, none⟩ [t82]) ∧
      ∃ t84 : Value, (At S_2 ⟨bn, 0, none⟩ [t84]) ∧
      ∃ t86 : Value, (At S_2 ⟨bn, 0, none⟩ [t86]) ∧
      (CalW Tryz.prog cl t82 [.int .i64 28629151] w_23 fun e_10 w_24 =>
      ∃ t83 : Int, (e_10 = .returned (.int .i64 t83)) ∧
      (S_2 w_24) ∧
      (CalW Tryz.prog cl t84 [.int .i64 8] w_24 fun e_11 w_25 =>
      ∃ t85 : Int, (e_11 = .returned (.int .i64 t85)) ∧
      (S_2 w_25) ∧
      (CalW Tryz.prog cl t86 [.int .i64 600] w_25 fun e_12 w_26 =>
      ∃ t87 : Int, (e_12 = .returned (.int .i64 t87)) ∧
      (S_2 w_26) ∧
      New (.cells #[.int .i64 0, .int .i64 0, .int .i64 0, .slice none 0 0] 51 (0,0)) (fun b_h10 w_27 =>
      (S_2 w_27) ∧
      ∃ w_28 : World, ((Instr.storeAt 51 (.pointer ((some ⟨b_h10, 0, none⟩))) (.agg #[.int .i64 t83, .int .i64 t85, .int .i64 t87, .slice none 0 0])).run Tryz.prog w_27 = .ok () w_28) ∧
      K ((some ⟨b_h10, 0, none⟩)) w_28) w_26) ∧
      New (.cells #[.int .i64 0, .int .i64 0, .int .i64 0, .slice none 0 0] 51 (0,0)) (fun b_h10_1 w_29 =>
      (S_2 w_29) ∧
      CalW Tryz.prog cl t86 [.int .i64 600] w_29 fun e_13 w_30 =>
      ∃ t87_1 : Int, (e_13 = .returned (.int .i64 t87_1)) ∧
      (S_2 w_30) ∧
      ∃ w_31 : World, ((Instr.storeAt 51 (.pointer ((some ⟨b_h10_1, 0, none⟩))) (.agg #[.int .i64 t83, .int .i64 t85, .int .i64 t87_1, .slice none 0 0])).run Tryz.prog w_30 = .ok () w_31) ∧
      K ((some ⟨b_h10_1, 0, none⟩)) w_31) w_25) ∧
      New (.cells #[.int .i64 0, .int .i64 0, .int .i64 0, .slice none 0 0] 51 (0,0)) (fun b_h10_2 w_32 =>
      (S_2 w_32) ∧
      CalW Tryz.prog cl t84 [.int .i64 8] w_32 fun e_14 w_33 =>
      ∃ t85_1 : Int, (e_14 = .returned (.int .i64 t85_1)) ∧
      (S_2 w_33) ∧
      CalW Tryz.prog cl t86 [.int .i64 600] w_33 fun e_15 w_34 =>
      ∃ t87_2 : Int, (e_15 = .returned (.int .i64 t87_2)) ∧
      (S_2 w_34) ∧
      ∃ w_35 : World, ((Instr.storeAt 51 (.pointer ((some ⟨b_h10_2, 0, none⟩))) (.agg #[.int .i64 t83, .int .i64 t85_1, .int .i64 t87_2, .slice none 0 0])).run Tryz.prog w_34 = .ok () w_35) ∧
      K ((some ⟨b_h10_2, 0, none⟩)) w_35) w_24) ∧
      New (.cells #[.int .i64 0, .int .i64 0, .int .i64 0, .slice none 0 0] 51 (0,0)) (fun b_h10_3 w_36 =>
      (S_2 w_36) ∧
      CalW Tryz.prog cl t82 [.int .i64 28629151] w_36 fun e_16 w_37 =>
      ∃ t83_1 : Int, (e_16 = .returned (.int .i64 t83_1)) ∧
      (S_2 w_37) ∧
      CalW Tryz.prog cl t84 [.int .i64 8] w_37 fun e_17 w_38 =>
      ∃ t85_2 : Int, (e_17 = .returned (.int .i64 t85_2)) ∧
      (S_2 w_38) ∧
      CalW Tryz.prog cl t86 [.int .i64 600] w_38 fun e_18 w_39 =>
      ∃ t87_3 : Int, (e_18 = .returned (.int .i64 t87_3)) ∧
      (S_2 w_39) ∧
      ∃ w_40 : World, ((Instr.storeAt 51 (.pointer ((some ⟨b_h10_3, 0, none⟩))) (.agg #[.int .i64 t83_1, .int .i64 t85_2, .int .i64 t87_3, .slice none 0 0])).run Tryz.prog w_39 = .ok () w_40) ∧
      K ((some ⟨b_h10_3, 0, none⟩)) w_40) w_23 := by
  have hb1 := rdNum_bd (most := 28629151) hb
  have hb2 := rdNum_bd (most := 8) hb1
  refine drw_rule' (Sat R [numC bn br, VC.tru]) hw (fun w hw => hw.restTru2) fun w hw => ?_
  refine ⟨numV br, At.own selfS (by exact ⟨rfl, trivial⟩), numV br, At.own selfS (by exact ⟨rfl, trivial⟩), numV br, At.own selfS (by exact ⟨rfl, trivial⟩), ?_⟩
  have one : ∀ {most : Int} {rd : Rd} {Hs' : List HP} {w : World} {K : Int → World → Prop}, 0 ≤ most → most < 9223372036854775808 → (∀ x ∈ rd.bs, 0 ≤ x ∧ x < 256) → Sat R (numC bn br :: pts br (brCell r) :: RdAt r rd :: Hs') w → (∀ w, Sat R (numC bn br :: pts br (brCell r) :: RdAt r (rdNum most rd).2 :: Hs') w → K (rdNum most rd).1 w) →
      CalW Tryz.prog cl (numV br) [.int .i64 most] w fun e w' => ∃ t : Int, e = .returned (.int .i64 t) ∧ Sat R [numC bn br, VC.tru] w' ∧ K t w' := fun {most rd Hs' w K} h0 h1 hb hw k => by
    refine (cnum_spec (r := r) h0 h1 hb (Hs := numC bn br :: Hs') hw.arr).mono ?_
    rintro _ w ⟨rfl, hw⟩
    have hw : Sat R (numC bn br :: pts br (brCell r) :: RdAt r (rdNum most rd).2 :: Hs') w := hw.arr
    exact ⟨_, rfl, hw.restTru2, k _ hw⟩
  have fin : ∀ {b : Nat} {w : World}, Sat R (pts b emH :: numC bn br :: pts br (brCell r) :: RdAt r (rdNum 600 (rdNum 8 (rdNum 28629151 rd).2).2).2 :: FlightAt p f :: Hs) w →
      ∃ w_9 : World, ((Instr.storeAt 51 (.pointer ((some ⟨b, 0, none⟩))) (.agg #[.int .i64 (rdNum 28629151 rd).1, .int .i64 (rdNum 8 (rdNum 28629151 rd).2).1, .int .i64 (rdNum 600 (rdNum 8 (rdNum 28629151 rd).2).2).1, .slice none 0 0])).run Tryz.prog w = .ok () w_9) ∧ K (some ⟨b, 0, none⟩) w_9 := fun {b w} hw => by
    refine store_rule hw (by kernel_rfl) rfl (by simp [Value.cells]) fun w hw => ?_
    exact k b w (hw.re (pts b (hCells ⟨(rdNum 28629151 rd).1, (rdNum 8 (rdNum 28629151 rd).2).1, (rdNum 600 (rdNum 8 (rdNum 28629151 rd).2).2).1, []⟩ ⟨none, 0, 0⟩)))
  have sw : ∀ {b : Nat} {rd : Rd} {Hs : List HP} {w : World}, Sat R (pts b emH :: numC bn br :: pts br (brCell r) :: RdAt r rd :: Hs) w → Sat R (numC bn br :: pts br (brCell r) :: RdAt r rd :: pts b emH :: Hs) w := fun hw => hw.arr
  have ws : ∀ {b : Nat} {rd : Rd} {Hs : List HP} {w : World}, Sat R (numC bn br :: pts br (brCell r) :: RdAt r rd :: pts b emH :: Hs) w → Sat R (pts b emH :: numC bn br :: pts br (brCell r) :: RdAt r rd :: Hs) w := fun hw => hw.arr
  refine ⟨one (by omega) (by omega) hb hw fun w hw => ⟨one (by omega) (by omega) hb1 hw fun w hw => ⟨one (by omega) (by omega) hb2 hw fun w hw => ?_, ?_⟩, ?_⟩, ?_⟩
  · refine new_rule hw fun b w hw => ?_
    have hw : Sat R (pts b emH :: numC bn br :: pts br (brCell r) :: RdAt r (rdNum 600 (rdNum 8 (rdNum 28629151 rd).2).2).2 :: FlightAt p f :: Hs) w := hw
    exact ⟨(sw hw).restTru2, fin hw⟩
  · refine new_rule hw fun b w hw => ?_
    have hw := sw (b := b) hw
    exact ⟨hw.restTru2, one (by omega) (by omega) hb2 hw fun w hw => fin (ws hw)⟩
  · refine new_rule hw fun b w hw => ?_
    have hw := sw (b := b) hw
    exact ⟨hw.restTru2, one (by omega) (by omega) hb1 hw fun w hw => one (by omega) (by omega) hb2 hw fun w hw => fin (ws hw)⟩
  · refine new_rule hw fun b w hw => ?_
    have hw := sw (b := b) hw
    exact ⟨hw.restTru2, one (by omega) (by omega) hb hw fun w hw => one (by omega) (by omega) hb1 hw fun w hw => one (by omega) (by omega) hb2 hw fun w hw => fin (ws hw)⟩

set_option maxHeartbeats 2000000 in
theorem decode_fspec {s : Sl} {bs : List Int} (hb : ∀ y ∈ bs, 0 ≤ y ∧ y < 256) (hs : Ro R s (b8 bs)) (hl : bs.length ≤ 1099511627776) (hw : Sat R Hs w) :
    Gets Tryz.prog 10 #[.slice s.a s.len s.cap] w fun v w' => (decF bs = none ∧ v = .tuple #[.pointer none, .int .i64 6] ∧ Sat R Hs w') ∨
      (∃ f p, decF bs = some f ∧ v = .tuple #[.pointer (some ⟨p, 0, none⟩), .int .i64 0] ∧ Sat R (FlightAt p f :: Hs) w') := by
  apply call10
  suffices H : ∀ K : Value → World → Prop, (decF bs = none → ∀ w', Sat R Hs w' → K (.tuple #[.pointer none, .int .i64 6]) w') → (∀ f p w', decF bs = some f → Sat R (FlightAt p f :: Hs) w' → K (.tuple #[.pointer (some ⟨p, 0, none⟩), .int .i64 0]) w') → B10 s K w from
    H _ (fun e w' h => .inl ⟨e, rfl, h⟩) fun f p w' e h => .inr ⟨f, p, e, rfl, h⟩
  intro K hK1 hK2
  refine (fnew_spec hs hl hw).use ?_
  clear hw
  rintro _ w ⟨r, rfl, hw⟩
  refine ⟨_, rfl, new_rule hw fun br w hw => ?_⟩
  refine store_rule hw (by kernel_rfl) rfl (by simp [Value.cells]) fun w hw => ?_
  have hw := hw.re (pts br (brCell r))
  refine new_rule hw fun bn w hw => ?_
  refine store_rule hw (by kernel_rfl) rfl (by simp [Value.cells]) fun w hw => ?_
  have hw := hw.re (numC bn br)
  have hb0 : ∀ y ∈ (⟨bs, false⟩ : Rd).bs, 0 ≤ y ∧ y < 256 := hb
  have v1 := rdNum_val (most := 9999) hb0 (by omega)
  have hb1 := rdNum_bd (most := 9999) hb0
  obtain ⟨num, rd1, e1⟩ : ∃ y rd, rdNum 9999 ⟨bs, false⟩ = (y, rd) := ⟨_, _, rfl⟩
  rw [e1] at v1 hb1
  have v2 := rdNum_val (most := 60) hb1 (by omega)
  have hb2 := rdNum_bd (most := 60) hb1
  obtain ⟨rows, rd2, e2⟩ : ∃ y rd, rdNum 60 rd1 = (y, rd) := ⟨_, _, rfl⟩
  rw [e2] at v2 hb2
  have v3 := nList_val (most := 4) (each := 10) hb2 (by omega) (by omega)
  have hb3 := nList_bd (most := 4) (each := 10) hb2
  obtain ⟨grps, rd3, e3⟩ : ∃ y rd, nList 4 10 rd2 = (y, rd) := ⟨_, _, rfl⟩
  rw [e3] at v3 hb3
  have v4 := nList_val (most := 8) (each := 10000) hb3 (by omega) (by omega)
  have hb4 := nList_bd (most := 8) (each := 10000) hb3
  obtain ⟨lims, rd4, e4⟩ : ∃ y rd, nList 8 10000 rd3 = (y, rd) := ⟨_, _, rfl⟩
  rw [e4] at v4 hb4
  have v5 := rdNum_val (most := 600) hb4 (by omega)
  have hb5 := rdNum_bd (most := 600) hb4
  obtain ⟨nz, rd5, e5⟩ : ∃ y rd, rdNum 600 rd4 = (y, rd) := ⟨_, _, rfl⟩
  rw [e5] at v5 hb5
  dsimp only at v1 v2 v3 v4 v5 hb1 hb2 hb3 hb4 hb5
  obtain ⟨n, rfl⟩ := Int.eq_ofNat_of_zero_le v5.1
  have hraw : rawD bs = ⟨num, rows, grps, lims, (readHs n rd5).1, (readHs n rd5).2⟩ := by
    unfold rawD
    simp only [e1, e2, e3, e4, e5]
    rfl
  refine drw_rule' (Sat R [numC bn br, VC.tru]) hw (fun w hw => hw.restTru2) fun w hw => ?_
  refine ⟨numV br, At.own selfS (by exact ⟨rfl, trivial⟩), numV br, At.own selfS (by exact ⟨rfl, trivial⟩), ?_⟩
  have hw : Sat R (pts br (brCell r) :: RdAt r ⟨bs, false⟩ :: numC bn br :: Hs) w := hw.arr
  refine (cnum_spec (most := 9999) (by omega) (by omega) hb0 hw).mono ?_
  clear hw
  rintro _ w ⟨rfl, hw⟩
  rw [e1] at hw ⊢
  dsimp only at hw ⊢
  refine ⟨_, rfl, (hw.take (numC bn br)).restTru2, ?_⟩
  refine (cnum_spec (most := 60) (by omega) (by omega) hb1 hw).mono ?_
  clear hw
  rintro _ w ⟨rfl, hw⟩
  rw [e2] at hw ⊢
  dsimp only at hw ⊢
  refine ⟨_, rfl, (hw.take (numC bn br)).restTru2, ?_⟩
  have hw : Sat R (Reads ⟨none, 0, 0⟩ (intsI []) :: Reads ⟨none, 0, 0⟩ (intsI []) :: pts br (brCell r) :: RdAt r rd2 :: numC bn br :: Hs) w := Own.reads (T := 3) (Own.nil (Own.reads (T := 3) (Own.nil hw)))
  refine (empty_spec (num := num) (rows := rows) (by simp) hw).use ?_
  clear hw
  rintro _ w ⟨p, rfl, hw⟩
  refine ⟨_, rfl, (hw.take (numC bn br)).restTru2, ?_⟩
  have hw : Sat R (numC bn br :: pts br (brCell r) :: RdAt r rd2 :: FlightAt p (emptyF num rows [] []) :: Hs) w := hw.arr
  refine (dlist_spec (most := 4) (each := 10) (by omega) (by omega) (by omega) (by omega) hb2 hw).use ?_
  clear hw
  rintro _ w ⟨tg, rfl, hw⟩
  rw [e3] at hw
  dsimp only at hw
  refine ⟨tg, rfl, NilP.mk rfl ?_⟩
  obtain ⟨hm, om, sg, sl, ss, E, hE, hw⟩ := Sat.flight.1 (hw.take (FlightAt p (emptyF num rows [] [])))
  have hw := hw.drop.drop.drop
  obtain rfl : E = [] := by
    have := congrArg List.length hE
    simp [emptyF] at this
    exact this
  have hw : Sat R (pts p (fCells (emptyF num rows [] []) sg sl ss hm om) :: MapAt (α := Int) hm [] :: MapAt (α := Int) om [] :: HoldsAt [] :: Own tg 3 (intsI grps) :: numC bn br :: pts br (brCell r) :: RdAt r rd3 :: Hs) w := hw
  refine store_rule hw (by kernel_rfl) rfl (by simp [Value.cells]) fun w hw => ?_
  have hw := hw.re (pts p (fCells (emptyF num rows [] []) tg sl ss hm om))
  have hw : Sat R (numC bn br :: pts br (brCell r) :: RdAt r rd3 :: pts p (fCells (emptyF num rows [] []) tg sl ss hm om) :: Own tg 3 (intsI grps) :: MapAt (α := Int) hm [] :: MapAt (α := Int) om [] :: HoldsAt [] :: Hs) w := hw.arr
  refine (dlist_spec (most := 8) (each := 10000) (by omega) (by omega) (by omega) (by omega) hb3 hw).use ?_
  clear hw
  rintro _ w ⟨tl, rfl, hw⟩
  rw [e4] at hw
  dsimp only at hw
  refine ⟨tl, rfl, NilP.mk rfl ?_⟩
  have hw : Sat R (pts p (fCells (emptyF num rows [] []) tg sl ss hm om) :: Own tl 3 (intsI lims) :: Own tg 3 (intsI grps) :: MapAt (α := Int) hm [] :: MapAt (α := Int) om [] :: HoldsAt [] :: numC bn br :: pts br (brCell r) :: RdAt r rd4 :: Hs) w := hw.arr
  refine store_rule hw (by kernel_rfl) rfl (by simp [Value.cells]) fun w hw => ?_
  have hw := hw.re (pts p (fCells (emptyF num rows [] []) tg tl ss hm om))
  have htl := Own.len (hw.take (Own tl 3 (intsI lims)))
  rw [List.length_map] at htl
  refine NilP.mk rfl ⟨tl, At.own (eqS hw) (by exact ⟨rfl, trivial⟩), ?_⟩
  rw [htl]
  refine zer_rule (by omega) hw fun ts w hw => NilP.mk rfl ?_
  have hw : Sat R (pts p (fCells (emptyF num rows [] []) tg tl ss hm om) :: Own ts 3 (intsI (List.replicate lims.length 0)) :: Own tl 3 (intsI lims) :: Own tg 3 (intsI grps) :: MapAt (α := Int) hm [] :: MapAt (α := Int) om [] :: HoldsAt [] :: numC bn br :: pts br (brCell r) :: RdAt r rd4 :: Hs) w := hw.arr
  refine store_rule hw (by kernel_rfl) rfl (by simp [Value.cells]) fun w hw => ?_
  have hw := hw.re (pts p (fCells (emptyF num rows grps lims) tg tl ts hm om))
  have hw : Sat R (Own tg 3 (intsI grps) :: Own tl 3 (intsI lims) :: Own ts 3 (intsI (List.replicate lims.length 0)) :: pts p (fCells (emptyF num rows grps lims) tg tl ts hm om) :: MapAt (α := Int) hm [] :: MapAt (α := Int) om [] :: HoldsAt [] :: numC bn br :: pts br (brCell r) :: RdAt r rd4 :: Hs) w := hw.arr
  have hw : Sat R (FlightAt p (emptyF num rows grps lims) :: numC bn br :: pts br (brCell r) :: RdAt r rd4 :: Hs) w :=
    Sat.flight.2 ⟨hm, om, tg, tl, ts, [], rfl, Own.reads (hw.cons fun _ h => Own.reads (h.cons fun _ h => Own.reads h))⟩
  refine ⟨fun fine w => fine = fine0 num rows grps lims ∧ Sat R (FlightAt p (emptyF num rows grps lims) :: numC bn br :: pts br (brCell r) :: RdAt r rd4 :: Hs) w, ?_, ?_⟩
  · obtain ⟨hm, om, sg, sl, ss, E, R', hE, ee, rg, rl, rs, hw, back⟩ := Sat.flightO hw
    have rgo : RoI R' sg grps := rg.ro (by rw [List.length_map]; show grps.length ≤ _; omega)
    have rlo : RoI R' sl lims := rl.ro (by rw [List.length_map]; show lims.length ≤ _; omega)
    have rso : RoI R' ss (List.replicate lims.length 0) := rs.ro (by rw [List.length_map]; show (List.replicate lims.length (0 : Int)).length ≤ _; rw [List.length_replicate]; omega)
    have same : ∀ {w}, Sat R' (FO p hm om sg sl ss E (emptyF num rows grps lims) (numC bn br :: pts br (brCell r) :: RdAt r rd4 :: Hs)) w → Sat R (FlightAt p (emptyF num rows grps lims) :: numC bn br :: pts br (brCell r) :: RdAt r rd4 :: Hs) w := fun hw => Sat.flightC hE (back _ _ hw)
    refine drw_rule hw fun w hw => ?_
    refine NilP.mk rfl ⟨num, by rw [add_off]; exact At.own selfS (by exact ⟨rfl, trivial⟩), ?_⟩
    unfold fine0
    refine Br.d (fun h1 => ?_) (fun h1 => ⟨by rw [decide_eq_false h1]; rfl, same hw⟩)
    rw [decide_eq_true h1, Bool.true_and]
    refine NilP.mk rfl ⟨rows, sg, At.own selfS (by exact ⟨rfl, rfl, trivial⟩), ?_⟩
    refine (right_spec rgo hw).use ?_
    clear hw
    rintro _ w ⟨rfl, hw⟩
    refine ⟨_, rfl, hw, Br.mk (fun h2 => ?_) (fun h2 => ⟨by rw [h2]; rfl, same hw⟩)⟩
    rw [h2, Bool.true_and]
    refine NilP.mk rfl ⟨sl, At.own selfS (by exact ⟨rfl, trivial⟩), NilP.mk rfl ⟨ss, At.own selfS (by exact ⟨rfl, trivial⟩), ?_⟩⟩
    refine (nright_spec rlo rso hw).use ?_
    clear hw
    rintro _ w ⟨rfl, hw⟩
    refine ⟨_, rfl, hw, Br.mk (fun h3 => ?_) (fun h3 => ⟨by rw [h3]; rfl, same hw⟩)⟩
    rw [h3, Bool.true_and]
    have hl0 : 0 < lims.length := (limOk_iff.1 (nestOk_iff.1 h3).1).1.1
    refine NilP.mk rfl ⟨sl, At.own selfS (by exact ⟨rfl, trivial⟩), ?_⟩
    refine Ro.ix rlo selfS 0 rfl hl0 (F := fun t => _) ?_
    refine NilP.mk rfl ⟨rows, sg, At.own selfS (by exact ⟨rfl, rfl, trivial⟩), ?_⟩
    refine (count_spec rgo hw).use ?_
    clear hw
    rintro _ w ⟨rfl, hw⟩
    refine ⟨_, rfl, hw, ?_, same hw⟩
    rw [getD_lt hl0]
  clear hw
  rintro _ _ w ⟨rfl, hw⟩
  have hw : Sat R (pts br (brCell r) :: RdAt r rd4 :: numC bn br :: FlightAt p (emptyF num rows grps lims) :: Hs) w := hw.arr
  refine ⟨numV br, At.own (eqS hw) (by exact ⟨rfl, trivial⟩), ?_⟩
  refine (cnum_spec (most := 600) (by omega) (by omega) hb4 hw).mono ?_
  clear hw
  rintro _ w ⟨rfl, hw⟩
  rw [e5] at hw ⊢
  dsimp only at hw ⊢
  refine ⟨_, rfl, ?_⟩
  have hKp := foldD_keep
  have hfold : ∀ j, (readHs j rd5).1.foldl stepD (emptyF num rows grps lims, fine0 num rows grps lims, 0) = (readHs j rd5).1.foldl stepD (emptyF num rows grps lims, fine0 num rows grps lims, 0) := fun _ => rfl
  have hrun : (rawD bs).run = (readHs n rd5).1.foldl stepD (emptyF num rows grps lims, fine0 num rows grps lims, 0) := by rw [hraw]; rfl
  have hrd : (rawD bs).rd = (readHs n rd5).2 := by rw [hraw]
  generalize hx0 : ((emptyF num rows grps lims, fine0 num rows grps lims, 0) : PS) = x0 at *
  have hk0 : x0.1.lims.length ≤ 1000 ∧ x0.1.sold.length ≤ 1000 ∧ x0.1.grps.length ≤ 1000 := by
    rw [← hx0]
    refine ⟨by show lims.length ≤ _; omega, by show (List.replicate lims.length (0 : Int)).length ≤ _; rw [List.length_replicate]; omega, by show grps.length ≤ _; omega⟩
  refine ⟨fun fine last i w => ∃ j : Nat, i = j ∧ j ≤ n ∧ fine = ((readHs j rd5).1.foldl stepD x0).2.1 ∧ last = ((readHs j rd5).1.foldl stepD x0).2.2 ∧ Sat R (numC bn br :: pts br (brCell r) :: RdAt r (readHs j rd5).2 :: FlightAt p ((readHs j rd5).1.foldl stepD x0).1 :: Hs) w,
    fun _ _ i _ => n - i.toNat, ⟨0, rfl, by omega, ?_, ?_, ?_⟩, ?_⟩
  · rw [← hx0]; rfl
  · rw [← hx0]; rfl
  · rw [← hx0]
    show Sat R (numC bn br :: pts br (brCell r) :: RdAt r rd5 :: FlightAt p (emptyF num rows grps lims) :: Hs) w
    exact hw.arr
  clear hw
  rintro _ _ _ _ w ⟨j, rfl, hj, rfl, rfl, hw⟩
  refine Br.d (fun h => ?_) (fun h => ?_)
  · have hbj := readHs_bd j hb5
    have hsn := readHs_snoc j rd5
    have hkj := foldD_keep (readHs j rd5).1 x0
    generalize hx : (readHs j rd5).1.foldl stepD x0 = x at *
    have hstep : (readHs (j + 1) rd5).1.foldl stepD x0 = stepD x (readH (readHs j rd5).2).1 := by
      rw [hsn]
      show ((readHs j rd5).1 ++ [_]).foldl stepD x0 = _
      rw [List.foldl_append, hx]; rfl
    have hrd2 : (readHs (j + 1) rd5).2 = (readH (readHs j rd5).2).2 := by rw [hsn]
    have hval := readH_val hbj
    generalize hrdj : (readHs j rd5).2 = rdj at *
    have hc1 := rdNum_bd (most := 28629151) hbj
    have hc2 := rdNum_bd (most := 8) hc1
    have hc3 := rdNum_bd (most := 600) hc2
    rw [wrap64 (by omega) (by omega)]
    obtain ⟨J, hJ⟩ : ∃ J : Option Addr → World → Prop, ∀ h10 w, J h10 w ↔ ∃ b, h10 = some ⟨b, 0, none⟩ ∧ Sat R (pts b (hCells ⟨(rdNum 28629151 rdj).1, (rdNum 8 (rdNum 28629151 rdj).2).1, (rdNum 600 (rdNum 8 (rdNum 28629151 rdj).2).2).1, []⟩ ⟨none, 0, 0⟩) :: numC bn br :: pts br (brCell r) :: RdAt r (rdNum 600 (rdNum 8 (rdNum 28629151 rdj).2).2).2 :: FlightAt p x.1 :: Hs) w := ⟨_, fun _ _ => Iff.rfl⟩
    refine ⟨J, readh_spec hbj hw fun b w' h => (hJ _ _).2 ⟨b, rfl, h⟩, ?_⟩
    clear hw
    intro _ h10 w hJw
    obtain ⟨b, rfl, hw⟩ := (hJ _ _).1 hJw
    clear hJ hJw
    have hw : Sat R (numC bn br :: pts br (brCell r) :: RdAt r (rdNum 600 (rdNum 8 (rdNum 28629151 rdj).2).2).2 :: pts b (hCells ⟨(rdNum 28629151 rdj).1, (rdNum 8 (rdNum 28629151 rdj).2).1, (rdNum 600 (rdNum 8 (rdNum 28629151 rdj).2).2).1, []⟩ ⟨none, 0, 0⟩) :: FlightAt p x.1 :: Hs) w := hw.arr
    refine (dlist_spec (most := 600) (each := 600) (by omega) (by omega) (by omega) (by omega) hc3 hw).use ?_
    clear hw
    rintro _ w ⟨t, rfl, hw⟩
    refine ⟨t, rfl, NilP.mk rfl ?_⟩
    have hw : Sat R (pts b (hCells ⟨(rdNum 28629151 rdj).1, (rdNum 8 (rdNum 28629151 rdj).2).1, (rdNum 600 (rdNum 8 (rdNum 28629151 rdj).2).2).1, []⟩ ⟨none, 0, 0⟩) :: Own t 3 (intsI (nList 600 600 (rdNum 600 (rdNum 8 (rdNum 28629151 rdj).2).2).2).1) :: numC bn br :: pts br (brCell r) :: RdAt r (nList 600 600 (rdNum 600 (rdNum 8 (rdNum 28629151 rdj).2).2).2).2 :: FlightAt p x.1 :: Hs) w := hw.arr
    have hw : Sat R (pts b (hCells ⟨(rdNum 28629151 rdj).1, (rdNum 8 (rdNum 28629151 rdj).2).1, (rdNum 600 (rdNum 8 (rdNum 28629151 rdj).2).2).1, []⟩ ⟨none, 0, 0⟩) :: Own t 3 (intsI (readH rdj).1.seats) :: numC bn br :: pts br (brCell r) :: RdAt r (readH rdj).2 :: FlightAt p x.1 :: Hs) w := hw
    refine store_rule hw (by kernel_rfl) rfl (by simp [Value.cells]) fun w hw => ?_
    have hw := hw.re (pts b (hCells (readH rdj).1 t))
    generalize hh : (readH rdj).1 = hd at *
    have done : ∀ {y : PS} {Hs' : List HP} {w}, stepD x hd = y → Sat R (pts b (hCells hd t) :: Own t 3 (intsI hd.seats) :: numC bn br :: pts br (brCell r) :: RdAt r (readH rdj).2 :: FlightAt p y.1 :: Hs) w →
        (∃ j_1 : Nat, ((j : Int) + 1) = j_1 ∧ j_1 ≤ n ∧ y.2.1 = ((readHs j_1 rd5).1.foldl stepD x0).2.1 ∧ y.2.2 = ((readHs j_1 rd5).1.foldl stepD x0).2.2 ∧ Sat R (numC bn br :: pts br (brCell r) :: RdAt r (readHs j_1 rd5).2 :: FlightAt p ((readHs j_1 rd5).1.foldl stepD x0).1 :: Hs) w) := fun {y Hs' w} e hw => by
      refine ⟨j + 1, by omega, by omega, ?_⟩
      rw [hstep, hrd2, e]
      exact ⟨rfl, rfl, hw.drop.drop⟩
    refine Br.mk (fun h1 => ?_) (fun h1 => ?_)
    · refine NilP.mk rfl ⟨hd.owner, by rw [add_off]; exact At.own (eqS hw) (by exact ⟨rfl, trivial⟩), ?_⟩
      refine Br.d (fun h2 => ?_) (fun h2 => ?_)
      · have e : stepD x hd = ((restoreF x.1 hd).1, (restoreF x.1 hd).2, hd.owner) := by unfold stepD; rw [if_pos ⟨h1, h2⟩]
        refine NilP.mk rfl ⟨hd.owner, hd.cls, hd.many, t, At.own (eqS hw) (by exact ⟨rfl, rfl, rfl, rfl, trivial⟩), ?_⟩
        obtain ⟨R2, hro, keep, hw, back⟩ := Own.lendI (hw.take (Own t 3 (intsI hd.seats))) (by have := hval.n; omega)
        have hw := hw.take (FlightAt p x.1)
        refine (restore_fspec (by rw [hkj.lims]; exact hk0.1) (by rw [hkj.sold]; exact hk0.2.1) (by rw [hkj.grps]; exact hk0.2.2) hro (by have := hval.n; omega) hw).use ?_
        clear hw
        rintro _ w ⟨rfl, hw⟩
        have hw := back hw
        have hw : Sat R (pts b (hCells hd t) :: Own t 3 (intsI hd.seats) :: numC bn br :: pts br (brCell r) :: RdAt r (readH rdj).2 :: FlightAt p (restoreF x.1 hd).1 :: Hs) w := hw.arr
        refine ⟨_, rfl, NilP.mk rfl ⟨hd.owner, by rw [add_off]; exact At.own (eqS hw) (by exact ⟨rfl, trivial⟩), ?_⟩⟩
        exact ⟨done (Hs' := Hs) e hw, by dsimp only; omega⟩
      · have e : stepD x hd = (x.1, false, hd.owner) := by unfold stepD; rw [if_neg (fun h5 => h2 h5.2)]
        refine NilP.mk rfl ⟨hd.owner, by rw [add_off]; exact At.own (eqS hw) (by exact ⟨rfl, trivial⟩), ?_⟩
        exact ⟨done (Hs' := Hs) e hw, by dsimp only; omega⟩
    · have e : stepD x hd = (x.1, false, hd.owner) := by unfold stepD; rw [if_neg (fun h5 => by rw [h5.1] at h1; cases h1)]
      refine NilP.mk rfl ⟨hd.owner, by rw [add_off]; exact At.own (eqS hw) (by exact ⟨rfl, trivial⟩), ?_⟩
      exact ⟨done (Hs' := Hs) e hw, by dsimp only; omega⟩
  · obtain rfl : j = n := by omega
    rw [← hrun, ← hrd] at hw
    rw [← hrun]
    refine ⟨some ⟨r, 0, none⟩, At.own (eqS hw) (by exact ⟨rfl, trivial⟩), ?_⟩
    refine (whole_spec (hw.take (RdAt r (rawD bs).rd))).use ?_
    clear hw
    rintro _ w ⟨rfl, hw⟩
    refine ⟨_, rfl, Br.nb (fun h1 => ?_) (fun h1 => Br.nb (fun h2 => ?_) (fun h2 => ?_))⟩
    · exact hK1 (by unfold decF; rw [if_neg (fun h5 => by rw [h5.1] at h1; cases h1)]) _ hw.drop.drop.drop.drop
    · exact hK1 (by unfold decF; rw [if_neg (fun h5 => by rw [h5.2] at h2; cases h2)]) _ hw.drop.drop.drop.drop
    · exact hK2 _ _ _ (by unfold decF; rw [if_pos ⟨h1, h2⟩]) hw.drop.drop.drop
end Go.Proofs.YtaacfjdknlglhaaGreatDoor
/- Reference 15: Encode, list, may, Decode. Condition: bounds. -/
namespace Go.Proofs.YtaacfjdknlglhaaGreatDoor
set_option linter.unusedVariables false
open Go Go.VC

variable {R R' : Cx} {Hs Rest : List HP} {w : World}

/-! ### Bytes -/
theorem numsB_one (x : Int) (l : List Int) : numsB (x :: l) = numsB [x] ++ numsB l := by rw [show x :: l = [x] ++ l from rfl, numsB_app]
def rencB (r : RF) : List Int := encB r.num r.rows r.grps r.lims r.L
structure RSmall (r : RF) : Prop where
  num : 0 ≤ r.num ∧ r.num < 9223372036854775808
  rows : 0 ≤ r.rows ∧ r.rows < 9223372036854775808
  grps : small r.grps
  lims : small r.lims
  gl : r.grps.length ≤ 1000
  ll : r.lims.length ≤ 1000
  hs : ∀ h ∈ r.L, HSmall h
  hl : r.L.length ≤ 10000
/-- 'numbers(..)' of a few. -/
theorem nums_few {b n : Nat} {xs : List Int} (hn : n = xs.length) (hxs : small xs) (hl : xs.length ≤ 100) (hw : Sat R (pts b (.cells (xs.map (Value.int .i64)).toArray 3 (0, 0)) :: Hs) w) :
    Gets Tryz.prog 94 #[.slice (some ⟨b, 0, none⟩) n n] w fun v w' => ∃ t : Sl, v = .slice t.a t.len t.cap ∧ Sat R (Own t 5 (b8 (numsB xs)) :: Hs) w' := by
  have hw := own_lit (n := n) hw (by rw [List.length_map]; exact hn)
  obtain ⟨R1, hr1, keep1, hw, back1⟩ := Own.lendI hw (by omega)
  refine (rnumbers_spec (s := ⟨some ⟨b, 0, none⟩, n, n⟩) hxs (by omega) hr1 hw).use ?_
  rintro _ w ⟨t, rfl, hw⟩
  exact ⟨_, rfl, t, rfl, (back1 hw).drop⟩

theorem rencode_fspec {q : Nat} {r : RF} (sm : RSmall r) (hw : Sat R (RFAt q r :: Hs) w) :
    Gets Tryz.prog 50 #[.pointer (some ⟨q, 0, none⟩)] w fun v w' => ∃ t : Sl, v = .slice t.a t.len t.cap ∧ Sat R (Own t 5 (b8 (rencB r)) :: RFAt q r :: Hs) w' := by
  obtain ⟨sg, sl, s, ts, R', e, h, hw, back, hl⟩ := Sat.rfO hw
  have hsl := h.len
  have := sm.gl
  have := sm.ll
  have := sm.hl
  have hgo := h.grps.ro (R := R') (by rw [List.length_map]; omega)
  have hlo := h.lims.ro (R := R') (by rw [List.length_map]; omega)
  have hgl : sg.len = r.grps.length := by have := h.grps.len; rwa [List.length_map] at this
  have hll : sl.len = r.lims.length := by have := h.lims.len; rwa [List.length_map] at this
  have u3 : small [r.num, r.rows, (r.grps.length : Int)] := by intro y hy; have := sm.num; have := sm.rows; simp at hy; omega
  have u1 : small [(r.lims.length : Int)] := by intro y hy; simp at hy; omega
  have u2 : small [(r.L.length : Int)] := by intro y hy; simp at hy; omega
  have n3 := numsB_len (small_u u3)
  have ng := numsB_len (small_u sm.grps)
  have n1 := numsB_len (small_u u1)
  have nl := numsB_len (small_u sm.lims)
  have n2 := numsB_len (small_u u2)
  have hfin : numsB [r.num, r.rows, (r.grps.length : Int)] ++ numsB r.grps ++ numsB [(r.lims.length : Int)] ++ numsB r.lims ++ numsB [(r.L.length : Int)] ++ holdsB r.L = rencB r := by
    unfold rencB encB listB
    rw [show [r.num, r.rows, (r.grps.length : Int)] = [r.num, r.rows] ++ [(r.grps.length : Int)] from rfl, numsB_app]
    simp only [List.append_assoc]
  simp only [List.length_cons, List.length_nil] at n3 n1 n2
  apply call50
  refine drw_rule' (Sat R' [pts q (rCells r sg sl s), VC.tru]) hw (fun w hw => hw.restTru2) fun w hw => ?_
  refine NilP.mk rfl ⟨r.num, by rw [add_off]; exact At.own selfS (by exact ⟨rfl, trivial⟩), NilP.mk rfl ⟨r.rows, At.own selfS (by exact ⟨rfl, trivial⟩), NilP.mk rfl ⟨sg, At.own selfS (by exact ⟨rfl, trivial⟩), ?_⟩⟩⟩
  rw [hgl]
  refine new_rule hw fun b w hw => ⟨hw.drop.restTru2, ?_⟩
  have hw : Sat R' (pts b (.cells ([r.num, r.rows, (r.grps.length : Int)].map (Value.int .i64)).toArray 3 (0, 0)) :: pts q (rCells r sg sl s) :: Hs) w := hw
  refine (nums_few (n := 3) (by rfl) u3 (by simp) hw).use ?_
  clear hw
  rintro _ w ⟨t1, rfl, hw⟩
  refine ⟨t1, rfl, hw.drop.restTru2, NilP.mk rfl ⟨sg, At.own (eqS hw) (by exact ⟨rfl, trivial⟩), ?_⟩⟩
  refine (rnumbers_spec sm.grps (by omega) hgo hw).use ?_
  clear hw
  rintro _ w ⟨t2, rfl, hw⟩
  refine ⟨t2, rfl, ?_⟩
  refine appendOO elB8 (s := t1) (n := 1099511627790) Tryz.underlying22 hw.swap (by omega) (by omega) (by omega) fun s1 w hw => ?_
  have hw : Sat R' (Own s1 5 (b8 (numsB [r.num, r.rows, (r.grps.length : Int)] ++ numsB r.grps)) :: pts q (rCells r sg sl s) :: Hs) w := hw.swap.drop
  refine NilP.mk rfl ⟨sl, At.own (eqS hw) (by exact ⟨rfl, trivial⟩), ?_⟩
  rw [hll]
  refine new_rule hw fun b w hw => ?_
  have hw : Sat R' (pts b (.cells ([(r.lims.length : Int)].map (Value.int .i64)).toArray 3 (0, 0)) :: Own s1 5 (b8 (numsB [r.num, r.rows, (r.grps.length : Int)] ++ numsB r.grps)) :: pts q (rCells r sg sl s) :: Hs) w := hw
  refine (nums_few (n := 1) (by rfl) u1 (by simp) hw).use ?_
  clear hw
  rintro _ w ⟨t3, rfl, hw⟩
  refine ⟨t3, rfl, ?_⟩
  refine appendOO elB8 (s := s1) (n := 1099511627790) Tryz.underlying22 hw.swap (by rw [List.length_append]; omega) (by omega) (by omega) fun s2 w hw => ?_
  have hw : Sat R' (Own s2 5 (b8 (numsB [r.num, r.rows, (r.grps.length : Int)] ++ numsB r.grps ++ numsB [(r.lims.length : Int)])) :: pts q (rCells r sg sl s) :: Hs) w := hw.swap.drop
  refine NilP.mk rfl ⟨sl, At.own (eqS hw) (by exact ⟨rfl, trivial⟩), ?_⟩
  refine (rnumbers_spec sm.lims (by omega) hlo hw).use ?_
  clear hw
  rintro _ w ⟨t4, rfl, hw⟩
  refine ⟨t4, rfl, ?_⟩
  refine appendOO elB8 (s := s2) (n := 1099511627790) Tryz.underlying22 hw.swap (by rw [List.length_append, List.length_append]; omega) (by omega) (by omega) fun s3 w hw => ?_
  have hw : Sat R' (Own s3 5 (b8 (numsB [r.num, r.rows, (r.grps.length : Int)] ++ numsB r.grps ++ numsB [(r.lims.length : Int)] ++ numsB r.lims)) :: pts q (rCells r sg sl s) :: Hs) w := hw.swap.drop
  refine NilP.mk rfl ⟨s, At.own (eqS hw) (by exact ⟨rfl, trivial⟩), ?_⟩
  rw [hsl]
  refine new_rule hw fun b w hw => ?_
  have hw : Sat R' (pts b (.cells ([(r.L.length : Int)].map (Value.int .i64)).toArray 3 (0, 0)) :: Own s3 5 (b8 (numsB [r.num, r.rows, (r.grps.length : Int)] ++ numsB r.grps ++ numsB [(r.lims.length : Int)] ++ numsB r.lims)) :: pts q (rCells r sg sl s) :: Hs) w := hw
  refine (nums_few (n := 1) (by rfl) u2 (by simp) hw).use ?_
  clear hw
  rintro _ w ⟨t5, rfl, hw⟩
  refine ⟨t5, rfl, ?_⟩
  refine appendOO elB8 (s := s3) (n := 1099511627790) Tryz.underlying22 hw.swap (by rw [List.length_append, List.length_append, List.length_append]; omega) (by omega) (by omega) fun s4 w hw => ?_
  have hw : Sat R' (Own s4 5 (b8 (numsB [r.num, r.rows, (r.grps.length : Int)] ++ numsB r.grps ++ numsB [(r.lims.length : Int)] ++ numsB r.lims ++ numsB [(r.L.length : Int)])) :: pts q (rCells r sg sl s) :: Hs) w := hw.swap.drop
  have hb : (numsB [r.num, r.rows, (r.grps.length : Int)] ++ numsB r.grps ++ numsB [(r.lims.length : Int)] ++ numsB r.lims ++ numsB [(r.L.length : Int)]).length ≤ 20000 := by simp only [List.length_append]; omega
  generalize numsB [r.num, r.rows, (r.grps.length : Int)] ++ numsB r.grps ++ numsB [(r.lims.length : Int)] ++ numsB r.lims ++ numsB [(r.L.length : Int)] = pre at *
  have htl := h.hs.len
  refine ⟨fun out i w => ∃ j : Nat, i = j ∧ j ≤ r.L.length ∧ Sat R' (Own out 5 (b8 (pre ++ holdsB (r.L.take j))) :: pts q (rCells r sg sl s) :: Hs) w, fun _ i _ => r.L.length - i.toNat, ⟨0, rfl, by omega, by rw [show pre ++ holdsB (r.L.take 0) = pre by simp [holdsB]]; exact hw⟩, ?_⟩
  clear hw
  rintro _ out _ w ⟨j, rfl, hj, hw⟩
  refine NilP.mk rfl ⟨s, At.own (eqS hw) (by exact ⟨rfl, trivial⟩), Br.d (fun h1 => ?_) (fun h1 => ?_)⟩
  · have j1 : j < r.L.length := by omega
    have j2 : j < ts.length := by omega
    have hsm := sm.hs r.L[j] (List.getElem_mem _)
    have hhl : (holdsB (r.L.take j)).length ≤ 9036 * 10000 := by
      have := holdsB_len (L := r.L.take j) fun x hx => sm.hs x (List.mem_of_mem_take hx)
      rw [List.length_take] at this
      have : min j r.L.length ≤ 10000 := by omega
      omega
    have hsn := hsm.n
    have u4 : small [r.L[j].owner, r.L[j].cls, r.L[j].many, (r.L[j].seats.length : Int)] := by
      intro y hy
      have h1 := hsm.o
      have h2 := hsm.c
      have h3 := hsm.m
      simp at hy
      omega
    have n4 := numsB_len (small_u u4)
    simp only [List.length_cons, List.length_nil] at n4
    have ns := numsB_len (small_u hsm.s)
    have hro : RoI R' ts[j] r.L[j].seats := (h.hs.seats j j1 j2).ro (by rw [List.length_map]; omega)
    have hrl := hro.len
    refine NilP.mk rfl ⟨s, At.own (eqS hw) (by exact ⟨rfl, trivial⟩), ?_⟩
    refine h.hs.row (eqS hw) j1 j2 fun a ha => ⟨r.L[j].owner, r.L[j].cls, r.L[j].many, ts[j], ha, ?_⟩
    refine new_rule hw fun bh w hw => ?_
    have hw : Sat R' (pts bh emH :: Own out 5 (b8 (pre ++ holdsB (r.L.take j))) :: pts q (rCells r sg sl s) :: Hs) w := hw
    refine store_rule hw (by kernel_rfl) rfl (by simp [Value.cells]) fun w hw => ?_
    have hw := hw.re (pts bh (hCells r.L[j] ts[j]))
    refine ⟨r.L[j].owner, At.own (eqS hw) (by exact ⟨rfl, trivial⟩), r.L[j].cls, At.own (eqS hw) (by exact ⟨rfl, trivial⟩), r.L[j].many, At.own (eqS hw) (by exact ⟨rfl, trivial⟩), ts[j], At.own (eqS hw) (by exact ⟨rfl, trivial⟩), ?_⟩
    rw [hrl]
    refine new_rule hw fun bn w hw => ?_
    have hw : Sat R' (pts bn (.cells ([r.L[j].owner, r.L[j].cls, r.L[j].many, (r.L[j].seats.length : Int)].map (Value.int .i64)).toArray 3 (0, 0)) :: pts bh (hCells r.L[j] ts[j]) :: Own out 5 (b8 (pre ++ holdsB (r.L.take j))) :: pts q (rCells r sg sl s) :: Hs) w := hw
    refine (nums_few (n := 4) (by rfl) u4 (by simp) hw).use ?_
    clear hw
    rintro _ w ⟨t6, rfl, hw⟩
    refine ⟨t6, rfl, ?_⟩
    have hw : Sat R' (Own out 5 (b8 (pre ++ holdsB (r.L.take j))) :: Own t6 5 (b8 (numsB [r.L[j].owner, r.L[j].cls, r.L[j].many, (r.L[j].seats.length : Int)])) :: pts bh (hCells r.L[j] ts[j]) :: pts q (rCells r sg sl s) :: Hs) w := hw.arr
    refine appendOO elB8 (s := out) (n := 1099511627790) Tryz.underlying22 hw (by rw [List.length_append]; omega) (by omega) (by omega) fun s5 w hw => ?_
    refine ⟨ts[j], At.own (eqS hw) (by exact ⟨rfl, trivial⟩), ?_⟩
    refine (rnumbers_spec hsm.s (by omega) hro hw).use ?_
    clear hw
    rintro _ w ⟨t7, rfl, hw⟩
    refine ⟨t7, rfl, ?_⟩
    have hw : Sat R' (Own s5 5 (b8 (pre ++ holdsB (r.L.take j) ++ numsB [r.L[j].owner, r.L[j].cls, r.L[j].many, (r.L[j].seats.length : Int)])) :: Own t7 5 (b8 (numsB r.L[j].seats)) :: pts q (rCells r sg sl s) :: Hs) w := by
      have h5 : Sat R' (Own t6 5 (b8 (numsB [r.L[j].owner, r.L[j].cls, r.L[j].many, (r.L[j].seats.length : Int)])) :: pts bh (hCells r.L[j] ts[j]) :: Own s5 5 (b8 (pre ++ holdsB (r.L.take j) ++ numsB [r.L[j].owner, r.L[j].cls, r.L[j].many, (r.L[j].seats.length : Int)])) :: Own t7 5 (b8 (numsB r.L[j].seats)) :: pts q (rCells r sg sl s) :: Hs) w := hw.arr
      exact h5.drop.drop
    refine appendOO elB8 (s := s5) (n := 1099511627790) Tryz.underlying22 hw (by rw [List.length_append, List.length_append]; omega) (by omega) (by omega) fun s6 w hw => ?_
    rw [wrap64 (by omega) (by omega)]
    refine ⟨⟨j + 1, by omega, by omega, ?_⟩, by dsimp only; omega⟩
    have eB : pre ++ holdsB (r.L.take (j + 1)) = pre ++ holdsB (r.L.take j) ++ numsB [r.L[j].owner, r.L[j].cls, r.L[j].many, (r.L[j].seats.length : Int)] ++ numsB r.L[j].seats := by
      rw [holdsB_take j1]
      unfold holdB listB
      rw [show [r.L[j].owner, r.L[j].cls, r.L[j].many, (r.L[j].seats.length : Int)] = [r.L[j].owner, r.L[j].cls, r.L[j].many] ++ [(r.L[j].seats.length : Int)] from rfl, numsB_app [r.L[j].owner, r.L[j].cls, r.L[j].many]]
      simp only [List.append_assoc]
    rw [eB]
    exact hw.swap.drop
  · rw [List.take_of_length_le (by omega), hfin] at hw
    refine ⟨out, rfl, ?_⟩
    exact (Sat.rf.2 ⟨sg, sl, s, ts, hl, back _ _ hw.swap⟩ : Sat R (RFAt q r :: Own out 5 (b8 (rencB r)) :: Hs) w).swap
end Go.Proofs.YtaacfjdknlglhaaGreatDoor
/- Reference 15: list, may, Decode. Condition: bounds. -/
namespace Go.Proofs.YtaacfjdknlglhaaGreatDoor
set_option linter.unusedVariables false
open Go Go.VC

variable {R R' : Cx} {Hs Rest : List HP} {w : World}

/-! ### Plain -/
def rMany : Nat → Int → Rd → List Int × Rd
  | 0, _, r => ([], r)
  | k + 1, each, r => if r.bad then ([], r) else ((rdNum each r).1 :: (rMany k each (rdNum each r).2).1, (rMany k each (rdNum each r).2).2)
theorem rMany_succ (k : Nat) (each : Int) (r : Rd) : rMany (k + 1) each r = if r.bad then ([], r) else ((rdNum each r).1 :: (rMany k each (rdNum each r).2).1, (rMany k each (rdNum each r).2).2) := rfl
theorem rMany_bad {each : Int} {r : Rd} (h : r.bad = true) : ∀ k, rMany k each r = ([], r)
  | 0 => rfl
  | k + 1 => by rw [rMany_succ, if_pos h]
def rList (most each : Int) (r : Rd) : List Int × Rd := rMany (rdNum most r).1.toNat each (rdNum most r).2
theorem rMany_bd : ∀ (k : Nat) (most : Int) {r : Rd}, (∀ x ∈ r.bs, 0 ≤ x ∧ x < 256) → ∀ x ∈ (rMany k most r).2.bs, 0 ≤ x ∧ x < 256
  | 0, _, _, h => h
  | k + 1, most, r, h => by
    rw [rMany_succ]
    split
    · exact h
    · exact rMany_bd k most (rdNum_bd h)
theorem rMany_val : ∀ (k : Nat) {most : Int} {r : Rd}, 0 ≤ most → (∀ x ∈ r.bs, 0 ≤ x ∧ x < 256) → (∀ x ∈ (rMany k most r).1, 0 ≤ x ∧ x ≤ most) ∧ (rMany k most r).1.length ≤ k
  | 0, _, _, _, _ => ⟨by simp [rMany], by simp [rMany]⟩
  | k + 1, most, r, hm, h => by
    rw [rMany_succ]
    split
    · exact ⟨by simp, by simp⟩
    · obtain ⟨h1, h2⟩ := rMany_val k hm (rdNum_bd (most := most) h)
      refine ⟨fun x hx => ?_, by rw [List.length_cons]; omega⟩
      rcases List.mem_cons.1 hx with rfl | hx
      · exact rdNum_val h hm
      · exact h1 x hx
theorem rList_bd {most each : Int} {r : Rd} (h : ∀ x ∈ r.bs, 0 ≤ x ∧ x < 256) : ∀ x ∈ (rList most each r).2.bs, 0 ≤ x ∧ x < 256 := rMany_bd _ _ (rdNum_bd h)
theorem rList_val {most each : Int} {r : Rd} (h : ∀ x ∈ r.bs, 0 ≤ x ∧ x < 256) (hm : 0 ≤ most) (he : 0 ≤ each) : (∀ x ∈ (rList most each r).1, 0 ≤ x ∧ x ≤ each) ∧ ((rList most each r).1.length : Int) ≤ most := by
  obtain ⟨h1, h2⟩ := rMany_val (rdNum most r).1.toNat he (rdNum_bd (most := most) h)
  have := rdNum_val h hm
  exact ⟨h1, by show ((rMany _ _ _).1.length : Int) ≤ _; omega⟩

theorem rlist_spec {b : Nat} {s : Sl} {bs : List Int} {rd : Rd} {most each : Int} (h0 : 0 ≤ most) (h1 : most < 1000000) (h2 : 0 ≤ each) (h3 : each < 9223372036854775808) (hl : bs.length ≤ 1099511627776) (hbs : ∀ x ∈ bs, 0 ≤ x ∧ x < 256) (hb : ∀ x ∈ rd.bs, 0 ≤ x ∧ x < 256) (hs : SlR R.m s (b8 bs)) (hw : Sat R (RRdAt b s bs rd :: Hs) w) :
    Gets Tryz.prog 41 #[.pointer (some ⟨b, 0, none⟩), .int .u64 most, .int .u64 each] w fun v w' => ∃ t : Sl, v = .slice t.a t.len t.cap ∧ Sat R (Own t 3 (intsI (rList most each rd).1) :: RRdAt b s bs (rList most each rd).2 :: Hs) w' := by
  apply call41
  suffices H : ∀ K : Value → World → Prop, (∀ (t : Sl) w', Sat R (Own t 3 (intsI (rList most each rd).1) :: RRdAt b s bs (rList most each rd).2 :: Hs) w' → K (.slice t.a t.len t.cap) w') → B41 (some ⟨b, 0, none⟩) most each K w from H _ fun t w' h => ⟨t, rfl, h⟩
  intro K hK
  refine (rrnum_spec hl hbs hs hw).use ?_
  clear hw
  rintro _ w ⟨rfl, hw⟩
  refine ⟨_, rfl, ?_⟩
  have hv := rdNum_val (most := most) hb h0
  have hb1 := rdNum_bd (most := most) hb
  obtain ⟨n, hn⟩ := Int.eq_ofNat_of_zero_le hv.1
  have hrl : rList most each rd = rMany n each (rdNum most rd).2 := by unfold rList; rw [hn]; rfl
  rw [hrl] at hK
  rw [hn]
  rw [hn] at hv
  generalize (rdNum most rd).2 = rd1 at *
  refine ⟨fun out i w => ∃ (j : Nat) (acc : List Int) (rdj : Rd), i = j ∧ j ≤ n ∧ acc.length = j ∧ (∀ x ∈ rdj.bs, 0 ≤ x ∧ x < 256) ∧ (acc ++ (rMany (n - j) each rdj).1, (rMany (n - j) each rdj).2) = rMany n each rd1 ∧ Sat R (Own out 3 (intsI acc) :: RRdAt b s bs rdj :: Hs) w, fun _ i _ => n - i.toNat, ⟨0, [], rd1, rfl, by omega, rfl, hb1, rfl, Own.nil hw⟩, ?_⟩
  clear hw
  rintro _ out _ w ⟨j, acc, rdj, rfl, hj, hacc, hbj, he, hw⟩
  refine Br.d (fun h => ?_) (fun h => ?_)
  · obtain ⟨m, hm⟩ : ∃ m, n - j = m + 1 := ⟨n - j - 1, by omega⟩
    rw [hm, rMany_succ] at he
    obtain ⟨nn, hnn, hw⟩ := Sat.rrd.1 hw.swap
    refine NilP.mk rfl ⟨rdj.bad, At.own (eqS hw) (by exact ⟨rfl, trivial⟩), Br.nb (fun h4 => ?_) (fun h4 => ?_)⟩
    · have hw := (Sat.rrd.2 ⟨nn, hnn, hw⟩ : Sat R (RRdAt b s bs rdj :: Own out 3 (intsI acc) :: Hs) w)
      rw [if_neg (by rw [h4]; simp)] at he
      refine (rrnum_spec hl hbs hs hw).use ?_
      clear hw
      rintro _ w ⟨rfl, hw⟩
      have hvk := rdNum_val (most := each) hbj h2
      refine ⟨_, rfl, ?_⟩
      refine pushI_rule elI8 hw.swap (by omega) fun s' w hw => ?_
      rw [wrap64 (by omega) (by omega)] at hw
      rw [wrapU64 (by omega) (by omega)]
      refine ⟨⟨j + 1, acc ++ [(rdNum each rdj).1], (rdNum each rdj).2, by omega, by omega, by simp [hacc], rdNum_bd hbj, ?_, hw⟩, by dsimp only; omega⟩
      rw [show n - (j + 1) = m by omega, ← he, List.append_assoc]
      rfl
    · have hw := (Sat.rrd.2 ⟨nn, hnn, hw⟩ : Sat R (RRdAt b s bs rdj :: Own out 3 (intsI acc) :: Hs) w)
      rw [if_pos h4] at he
      rw [← he] at hK
      refine hK out w ?_
      rw [List.append_nil]
      exact hw.swap
  · obtain rfl : j = n := by omega
    rw [Nat.sub_self] at he
    rw [← he] at hK
    refine hK out w ?_
    show Sat R (Own out 3 (intsI (acc ++ [])) :: RRdAt b s bs rdj :: Hs) w
    rw [List.append_nil]
    exact hw

/-! ### may -/
structure OkAt (r : RF) (j : Nat) (hj : j < r.L.length) : Prop where
  o : 1 ≤ r.L[j].owner
  p : ∀ h : 0 < j, r.L[j - 1].owner < r.L[j].owner
  c : r.L[j].cls < r.lims.length
  m : 1 ≤ r.L[j].many
  n : (r.L[j].seats.length : Int) ≤ r.L[j].many
  s : ∀ k (hk : k < r.L[j].seats.length), r.L[j].seats[k] ∉ takenL (r.L.take j) ++ r.L[j].seats.take k ∧ r.L[j].seats[k] < layN r.rows r.grps ∧ ∀ h : 0 < k, r.L[j].seats[k - 1] < r.L[j].seats[k]
structure MayP (r : RF) : Prop where
  num : 1 ≤ r.num
  lay : layOk r.rows r.grps = true
  lim : limOk r.lims = true
  l0 : r.lims.getD 0 0 = layN r.rows r.grps
  each : ∀ j (hj : j < r.L.length), OkAt r j hj
  nest : nestOk r.lims r.sold = true

/-- What the bytes have given: bounds. -/
structure RIn (r : RF) : Prop where
  gl : r.grps.length ≤ 1000
  ll : r.lims.length ≤ 1000
  hl : r.L.length ≤ 1000
  hs : ∀ h ∈ r.L, HoldIn h

theorem may_spec {q : Nat} {r : RF} {sg sl s : Sl} {ts : List Sl} (h : RfR R r sg sl s ts) (ri : RIn r) (hw : Sat R (pts q (rCells r sg sl s) :: Hs) w) :
    Gets Tryz.prog 43 #[.pointer (some ⟨q, 0, none⟩)] w fun v w' => ((MayP r ∧ v = .bool true) ∨ (¬ MayP r ∧ v = .bool false)) ∧ Sat R (pts q (rCells r sg sl s) :: Hs) w' := by
  have hsl := h.len
  have htl := h.hs.len
  have := ri.gl
  have := ri.ll
  have := ri.hl
  have hgo := h.grps.ro (R := R) (by rw [List.length_map]; omega)
  have hlo := h.lims.ro (R := R) (by rw [List.length_map]; omega)
  have hll : sl.len = r.lims.length := by have := h.lims.len; rwa [List.length_map] at this
  apply call43
  suffices H : ∀ K : Value → World → Prop, (MayP r → ∀ w', Sat R (pts q (rCells r sg sl s) :: Hs) w' → K (.bool true) w') → (¬ MayP r → ∀ w', Sat R (pts q (rCells r sg sl s) :: Hs) w' → K (.bool false) w') → B43 (some ⟨q, 0, none⟩) K w from
    H _ (fun h w' h' => ⟨.inl ⟨h, rfl⟩, h'⟩) fun h w' h' => ⟨.inr ⟨h, rfl⟩, h'⟩
  intro K hK1 hK2
  refine NilP.mk rfl ⟨r.rows, sg, At.own (eqS hw) (by exact ⟨rfl, rfl, trivial⟩), ?_⟩
  refine (rright_spec hgo hw).use ?_
  clear hw
  rintro _ w ⟨rfl, hw⟩
  refine ⟨_, rfl, NilP.mk rfl ⟨sl, At.own (eqS hw) (by exact ⟨rfl, trivial⟩), ?_⟩⟩
  refine (rlim_spec hlo hw).use ?_
  clear hw
  rintro _ w ⟨rfl, hw⟩
  refine ⟨_, rfl, fun w => (1 ≤ r.num ∧ layOk r.rows r.grps = true ∧ limOk r.lims = true ∧ r.lims.getD 0 0 = layN r.rows r.grps) ∧ Sat R (pts q (rCells r sg sl s) :: Hs) w, ?_, ?_⟩
  · refine drw_rule hw fun w hw => ?_
    refine NilP.mk rfl ⟨r.num, by rw [add_off]; exact At.own selfS (by exact ⟨rfl, trivial⟩), ?_⟩
    refine Br.d (fun h1 => hK2 (fun m => by have := m.num; omega) _ hw) (fun h1 => ?_)
    refine Br.nb (fun h2 => hK2 (fun m => by rw [m.lay] at h2; cases h2) _ hw) (fun h2 => ?_)
    refine Br.nb (fun h3 => hK2 (fun m => by rw [m.lim] at h3; cases h3) _ hw) (fun h3 => ?_)
    have hl0 : 0 < r.lims.length := (limOk_iff.1 h3).1.1
    refine NilP.mk rfl ⟨sl, At.own selfS (by exact ⟨rfl, trivial⟩), ?_⟩
    refine Ro.ix hlo selfS 0 rfl hl0 (F := fun t => _) ?_
    refine NilP.mk rfl ⟨r.rows, sg, At.own selfS (by exact ⟨rfl, rfl, trivial⟩), ?_⟩
    refine (rcount_spec hgo hw).use ?_
    clear hw
    rintro _ w ⟨rfl, hw⟩
    refine ⟨_, rfl, hw, Br.ne (fun h4 => hK2 (fun m => h4 (by rw [← getD_lt hl0]; exact m.l0)) _ hw) (fun h4 => ⟨⟨by omega, h2, h3, by rw [getD_lt hl0]; exact h4⟩, hw⟩)⟩
  clear hw
  rintro _ w ⟨⟨h1, h2, h3, h4⟩, hw⟩
  refine ⟨fun told i w => ∃ j : Nat, i = j ∧ j ≤ r.L.length ∧ (∀ x (hx : x < r.L.length), x < j → OkAt r x hx) ∧ Sat R (Own told 3 (intsI (takenL (r.L.take j))) :: pts q (rCells r sg sl s) :: Hs) w, fun _ i _ => r.L.length - i.toNat, ⟨0, rfl, by omega, fun x hx hx0 => by omega, Own.nil hw⟩, ?_⟩
  clear hw
  rintro _ told _ w ⟨j, rfl, hj, hok, hw⟩
  refine NilP.mk rfl ⟨s, At.own (eqS hw) (by exact ⟨rfl, trivial⟩), Br.d (fun h5 => ?_) (fun h5 => ?_)⟩
  · have j1 : j < r.L.length := by omega
    have j2 : j < ts.length := by omega
    have hin := ri.hs r.L[j] (List.getElem_mem _)
    have hin_n := hin.n
    have hro : RoI R ts[j] r.L[j].seats := (h.hs.seats j j1 j2).ro (by rw [List.length_map]; omega)
    have hrl := hro.len
    have htk := takenL_len (L := r.L.take j) fun x hx => by have := (ri.hs x (List.mem_of_mem_take hx)).n; omega
    rw [List.length_take, Nat.min_eq_left hj] at htk
    refine NilP.mk rfl ⟨s, At.own (eqS hw) (by exact ⟨rfl, trivial⟩), ?_⟩
    refine h.hs.row (eqS hw) j1 j2 fun a ha => ⟨r.L[j].owner, r.L[j].cls, r.L[j].many, ts[j], ha, ?_⟩
    refine new_rule hw fun bh w hw => ?_
    have hw : Sat R (pts bh emH :: Own told 3 (intsI (takenL (r.L.take j))) :: pts q (rCells r sg sl s) :: Hs) w := hw
    refine store_rule hw (by kernel_rfl) rfl (by simp [Value.cells]) fun w hw => ?_
    have hw := hw.re (pts bh (hCells r.L[j] ts[j]))
    have bad : ∀ {w : World} {l : List Int}, ¬ OkAt r j j1 → Sat R (pts bh (hCells r.L[j] ts[j]) :: Own told 3 (intsI l) :: pts q (rCells r sg sl s) :: Hs) w → K (.bool false) w := fun hn hw => hK2 (fun m => hn (m.each j j1)) _ hw.drop.drop
    refine ⟨fun w => (1 ≤ r.L[j].owner ∧ (∀ h : 0 < j, r.L[j - 1].owner < r.L[j].owner) ∧ r.L[j].cls < r.lims.length ∧ 1 ≤ r.L[j].many ∧ (r.L[j].seats.length : Int) ≤ r.L[j].many) ∧ Sat R (pts bh (hCells r.L[j] ts[j]) :: Own told 3 (intsI (takenL (r.L.take j))) :: pts q (rCells r sg sl s) :: Hs) w, ?_, ?_⟩
    · refine drw_rule hw fun w hw => ?_
      refine ⟨r.L[j].owner, At.own selfS (by exact ⟨rfl, trivial⟩), Br.d (fun h6 => bad (fun o => by have := o.o; omega) hw) (fun h6 => ?_)⟩
      have rest : (∀ h : 0 < j, r.L[j - 1].owner < r.L[j].owner) → (∃ t86 : Int, (At (Sat R (pts bh (hCells r.L[j] ts[j]) :: Own told 3 (intsI (takenL (r.L.take j))) :: pts q (rCells r sg sl s) :: Hs)) ⟨bh, 0 + 1, none⟩ [.int .i64 t86]) ∧
            NilP (some ⟨q, 0, none⟩) fun a_t88 =>
            ∃ t90 : Sl, (At (Sat R (pts bh (hCells r.L[j] ts[j]) :: Own told 3 (intsI (takenL (r.L.take j))) :: pts q (rCells r sg sl s) :: Hs)) ⟨a_t88.block, a_t88.off + 3, none⟩ [.slice t90.a t90.len t90.cap]) ∧
            Br (decide (t86 ≥ (↑t90.len : Int)))
             (K (.bool false) w)
             (∃ t96 : Int, (At (Sat R (pts bh (hCells r.L[j] ts[j]) :: Own told 3 (intsI (takenL (r.L.take j))) :: pts q (rCells r sg sl s) :: Hs)) ⟨bh, 0 + 2, none⟩ [.int .i64 t96]) ∧
              Br (decide (t96 < 1))
               (K (.bool false) w)
               (∃ t101 : Sl, (At (Sat R (pts bh (hCells r.L[j] ts[j]) :: Own told 3 (intsI (takenL (r.L.take j))) :: pts q (rCells r sg sl s) :: Hs)) ⟨bh, 0 + 3, none⟩ [.slice t101.a t101.len t101.cap]) ∧
                ∃ t104 : Int, (At (Sat R (pts bh (hCells r.L[j] ts[j]) :: Own told 3 (intsI (takenL (r.L.take j))) :: pts q (rCells r sg sl s) :: Hs)) ⟨bh, 0 + 2, none⟩ [.int .i64 t104]) ∧
                Br (decide ((↑t101.len : Int) > t104))
                 (K (.bool false) w)
                 ((1 ≤ r.L[j].owner ∧ (∀ h : 0 < j, r.L[j - 1].owner < r.L[j].owner) ∧ r.L[j].cls < r.lims.length ∧ 1 ≤ r.L[j].many ∧ (r.L[j].seats.length : Int) ≤ r.L[j].many) ∧ Sat R (pts bh (hCells r.L[j] ts[j]) :: Own told 3 (intsI (takenL (r.L.take j))) :: pts q (rCells r sg sl s) :: Hs) w)))) := fun hp => by
        refine ⟨r.L[j].cls, At.own selfS (by exact ⟨rfl, trivial⟩), NilP.mk rfl ⟨sl, At.own selfS (by exact ⟨rfl, trivial⟩), ?_⟩⟩
        rw [hll]
        refine Br.d (fun h7 => bad (fun o => by have := o.c; omega) hw) (fun h7 => ⟨r.L[j].many, At.own selfS (by exact ⟨rfl, trivial⟩), Br.d (fun h8 => bad (fun o => by have := o.m; omega) hw) (fun h8 => ⟨ts[j], At.own selfS (by exact ⟨rfl, trivial⟩), r.L[j].many, At.own selfS (by exact ⟨rfl, trivial⟩), ?_⟩)⟩)
        rw [hrl]
        exact Br.d (fun h9 => bad (fun o => by have := o.n; omega) hw) (fun h9 => ⟨⟨by omega, hp, by omega, by omega, by omega⟩, hw⟩)
      refine Br.d (fun h7 => ?_) (fun h7 => rest fun h => by omega)
      refine ⟨r.L[j].owner, At.own selfS (by exact ⟨rfl, trivial⟩), NilP.mk rfl ⟨s, At.own selfS (by exact ⟨rfl, trivial⟩), ?_⟩⟩
      have e1 : IntKind.i64.wrap ((j : Int) - 1) = ((j - 1 : Nat) : Int) := by rw [wrap64 (by omega) (by omega)]; omega
      rw [e1]
      refine h.hs.fld (j := 0) selfS (k := j - 1) (by omega) (by omega) rfl fun x nx hx => ⟨r.L[j - 1].owner, by rw [show ((j - 1 : Nat) : Int).toNat = j - 1 by omega, add_zero_fld _ _ nx]; exact hx, ?_⟩
      refine Br.d (fun h8 => bad (fun o => by have := o.p (by omega); omega) hw) (fun h8 => rest fun _ => by omega)
    clear hw
    rintro _ w ⟨⟨o1, o2, o3, o4, o5⟩, hw⟩
    refine ⟨fun told i w => ∃ k : Nat, i = k ∧ k ≤ r.L[j].seats.length ∧ (∀ x (hx : x < r.L[j].seats.length), x < k → r.L[j].seats[x] ∉ takenL (r.L.take j) ++ r.L[j].seats.take x ∧ r.L[j].seats[x] < layN r.rows r.grps ∧ ∀ h : 0 < x, r.L[j].seats[x - 1] < r.L[j].seats[x]) ∧
      Sat R (pts bh (hCells r.L[j] ts[j]) :: Own told 3 (intsI (takenL (r.L.take j) ++ r.L[j].seats.take k)) :: pts q (rCells r sg sl s) :: Hs) w, fun _ i _ => r.L[j].seats.length - i.toNat, ⟨0, rfl, by omega, fun x hx hx0 => by omega, by simpa using hw⟩, ?_⟩
    clear hw
    rintro _ told2 _ w ⟨k, rfl, hk, hks, hw⟩
    have hTl : (takenL (r.L.take j) ++ r.L[j].seats.take k).length ≤ 2000000 := by rw [List.length_append, List.length_take]; omega
    refine ⟨ts[j], At.own (eqS hw) (by exact ⟨rfl, trivial⟩), ?_⟩
    refine Br.d (fun h6 => ?_) (fun h6 => ?_)
    · have hk1 : k < r.L[j].seats.length := by omega
      have bad2 : ∀ {w : World}, ¬ (r.L[j].seats[k] ∉ takenL (r.L.take j) ++ r.L[j].seats.take k ∧ r.L[j].seats[k] < layN r.rows r.grps ∧ ∀ h : 0 < k, r.L[j].seats[k - 1] < r.L[j].seats[k]) → Sat R (pts bh (hCells r.L[j] ts[j]) :: Own told2 3 (intsI (takenL (r.L.take j) ++ r.L[j].seats.take k)) :: pts q (rCells r sg sl s) :: Hs) w → K (.bool false) w := fun hn hw => hK2 (fun m => hn ((m.each j j1).s k hk1)) _ hw.drop.drop
      refine ⟨ts[j], At.own (eqS hw) (by exact ⟨rfl, trivial⟩), ?_⟩
      refine Ro.ix hro (eqS hw) k rfl hk1 ?_
      obtain ⟨R2, hrk, keep, hw, back2⟩ := Own.lendI hw.swap (by omega)
      refine (has_spec hrk hw).use ?_
      clear hw
      rintro _ w ⟨rfl, hw⟩
      have hw := (back2 hw).swap
      refine ⟨_, rfl, drw_rule hw fun w hw => Br.d (fun h7 => bad2 (fun hh => hh.1 h7) hw) (fun h7 => ?_)⟩
      refine ⟨ts[j], At.own selfS (by exact ⟨rfl, trivial⟩), ?_⟩
      refine Ro.ix hro selfS k rfl hk1 ?_
      refine NilP.mk rfl ⟨r.rows, sg, At.own selfS (by exact ⟨rfl, rfl, trivial⟩), ?_⟩
      refine (rcount_spec hgo hw).use ?_
      clear hw
      rintro _ w ⟨rfl, hw⟩
      refine ⟨_, rfl, hw, Br.d (fun h8 => bad2 (fun hh => by have := hh.2.1; omega) hw) (fun h8 => ?_)⟩
      have fin : (∀ h : 0 < k, r.L[j].seats[k - 1] < r.L[j].seats[k]) → ∀ {s' : Sl} {w : World}, Sat R (Own s' 3 (intsI (takenL (r.L.take j) ++ r.L[j].seats.take k ++ [r.L[j].seats[k]])) :: pts bh (hCells r.L[j] ts[j]) :: pts q (rCells r sg sl s) :: Hs) w →
          (∃ k_1 : Nat, IntKind.i64.wrap ((k : Int) + 1) = k_1 ∧ k_1 ≤ r.L[j].seats.length ∧ (∀ x (hx : x < r.L[j].seats.length), x < k_1 → r.L[j].seats[x] ∉ takenL (r.L.take j) ++ r.L[j].seats.take x ∧ r.L[j].seats[x] < layN r.rows r.grps ∧ ∀ h : 0 < x, r.L[j].seats[x - 1] < r.L[j].seats[x]) ∧
            Sat R (pts bh (hCells r.L[j] ts[j]) :: Own s' 3 (intsI (takenL (r.L.take j) ++ r.L[j].seats.take k_1)) :: pts q (rCells r sg sl s) :: Hs) w) := fun hp {s' w} hw => by
        rw [wrap64 (by omega) (by omega)]
        refine ⟨k + 1, by omega, by omega, fun x hx hxk => ?_, ?_⟩
        · by_cases hxe : x = k
          · subst hxe; exact ⟨h7, by omega, hp⟩
          · exact hks x hx (by omega)
        · rw [show r.L[j].seats.take (k + 1) = r.L[j].seats.take k ++ [r.L[j].seats[k]] by rw [List.take_add_one, List.getElem?_eq_getElem hk1]; rfl, ← List.append_assoc]
          exact hw.swap
      have wr : IntKind.i64.wrap ((k : Int) + 1) = (k : Int) + 1 := wrap64 (by omega) (by omega)
      refine Br.d (fun h9 => ?_) (fun h9 => ?_)
      · refine ⟨ts[j], At.own selfS (by exact ⟨rfl, trivial⟩), ?_⟩
        refine Ro.ix hro selfS k rfl hk1 ⟨ts[j], At.own selfS (by exact ⟨rfl, trivial⟩), ?_⟩
        refine Ro.ix hro selfS (k - 1) (by rw [wrap64 (by omega) (by omega)]; omega) (by omega) ?_
        refine Br.d (fun h10 => bad2 (fun hh => by have := hh.2.2 (by omega); omega) hw) (fun h10 => ⟨ts[j], At.own (eqS hw) (by exact ⟨rfl, trivial⟩), ?_⟩)
        refine Ro.ix hro (eqS hw) k rfl hk1 ?_
        refine pushI_rule elI8 hw.swap (by omega) fun s' w hw => ?_
        exact ⟨fin (fun _ => by omega) hw, by dsimp only; omega⟩
      · refine ⟨ts[j], At.own (eqS hw) (by exact ⟨rfl, trivial⟩), ?_⟩
        refine Ro.ix hro (eqS hw) k rfl hk1 ?_
        refine pushI_rule elI8 hw.swap (by omega) fun s' w hw => ?_
        exact ⟨fin (fun h => by omega) hw, by dsimp only; omega⟩
    · rw [List.take_of_length_le (show r.L[j].seats.length ≤ k by omega), ← takenL_take j1] at hw
      rw [wrap64 (by omega) (by omega)]
      refine ⟨⟨j + 1, by omega, by omega, fun x hx hxj => ?_, hw.drop⟩, by dsimp only; omega⟩
      by_cases hxe : x = j
      · subst hxe; exact ⟨o1, o2, o3, o4, o5, fun y hy => hks y hy (by omega)⟩
      · exact hok x hx (by omega)
  · have hall : ∀ x (hx : x < r.L.length), OkAt r x hx := fun x hx => hok x hx (by omega)
    have hw := hw.drop
    refine drw_rule hw fun w hw => ?_
    refine NilP.mk rfl ⟨sl, At.own selfS (by exact ⟨rfl, trivial⟩), ?_⟩
    refine (rsold_spec h (by omega) (by omega) (fun x hx => ?_) hw).use ?_
    · obtain ⟨i, hi, rfl⟩ := List.getElem_of_mem hx
      have h6 := ri.hs r.L[i] hx
      exact ⟨⟨h6.c.1, (hall i hi).c⟩, ⟨h6.m.1, by have := h6.m.2; omega⟩⟩
    clear hw
    rintro _ w ⟨t, rfl, hw⟩
    refine ⟨t, rfl, hw.drop, ?_⟩
    obtain ⟨R2, hrk, keep, hw, back2⟩ := Own.lendI hw (by show (soldL _ _).length ≤ _; rw [soldL_len]; omega)
    refine (rnright_spec (keep _ _ hlo) hrk hw).use ?_
    clear hw
    rintro _ w ⟨rfl, hw⟩
    have hw := (back2 hw).drop
    refine ⟨_, rfl, ?_⟩
    cases hn : nestOk r.lims r.sold with
    | true => exact hK1 ⟨h1, h2, h3, h4, hall, hn⟩ _ hw
    | false => exact hK2 (fun m => by rw [m.nest] at hn; cases hn) _ hw
end Go.Proofs.YtaacfjdknlglhaaGreatDoor
/- Reference 15: Decode. Condition: bounds. -/
namespace Go.Proofs.YtaacfjdknlglhaaGreatDoor
set_option linter.unusedVariables false
open Go Go.VC

variable {R R' : Cx} {Hs Rest : List HP} {w : World}

def readHr (rd : Rd) : Hold × Rd :=
  (⟨(rdNum 28629151 rd).1, (rdNum 8 (rdNum 28629151 rd).2).1, (rdNum 600 (rdNum 8 (rdNum 28629151 rd).2).2).1, (rList 600 600 (rdNum 600 (rdNum 8 (rdNum 28629151 rd).2).2).2).1⟩, (rList 600 600 (rdNum 600 (rdNum 8 (rdNum 28629151 rd).2).2).2).2)
def rHs : Nat → Rd → List Hold × Rd
  | 0, rd => ([], rd)
  | k + 1, rd => if rd.bad then ([], rd) else ((readHr rd).1 :: (rHs k (readHr rd).2).1, (rHs k (readHr rd).2).2)
theorem rHs_succ (k : Nat) (rd : Rd) : rHs (k + 1) rd = if rd.bad then ([], rd) else ((readHr rd).1 :: (rHs k (readHr rd).2).1, (rHs k (readHr rd).2).2) := rfl
theorem readHr_bd {rd : Rd} (h : ∀ x ∈ rd.bs, 0 ≤ x ∧ x < 256) : ∀ x ∈ (readHr rd).2.bs, 0 ≤ x ∧ x < 256 := rList_bd (rdNum_bd (rdNum_bd (rdNum_bd h)))
theorem readHr_val {rd : Rd} (h : ∀ x ∈ rd.bs, 0 ≤ x ∧ x < 256) : HoldIn (readHr rd).1 := by
  have h1 := rdNum_bd (most := 28629151) h
  have h2 := rdNum_bd (most := 8) h1
  have h3 := rdNum_bd (most := 600) h2
  have hl := rList_val (most := 600) (each := 600) h3 (by omega) (by omega)
  exact ⟨rdNum_val h (by omega), rdNum_val h1 (by omega), rdNum_val h2 (by omega), hl.1, by have := hl.2; show (rList _ _ _).1.length ≤ 600; omega⟩
def rawR (bs : List Int) : Raw :=
  let a := rdNum 9999 ⟨bs, false⟩
  let b := rdNum 60 a.2
  let g := rList 4 10 b.2
  let l := rList 8 10000 g.2
  let n := rdNum 600 l.2
  let x := rHs n.1.toNat n.2
  ⟨a.1, b.1, g.1, l.1, x.1, x.2⟩
def Raw.rf (x : Raw) : RF := ⟨x.num, x.rows, x.grps, x.lims, x.L⟩

set_option maxHeartbeats 1000000 in
theorem rdecode_fspec {s : Sl} {bs : List Int} (hb : ∀ y ∈ bs, 0 ≤ y ∧ y < 256) (hs : SlR R.m s (b8 bs)) (hl : bs.length ≤ 1099511627776) (hw : Sat R Hs w) :
    Gets Tryz.prog 11 #[.slice s.a s.len s.cap] w fun v w' => (¬ (rdWhole (rawR bs).rd = true ∧ MayP (rawR bs).rf) ∧ v = .tuple #[.pointer none, .int .i64 6] ∧ Sat R Hs w') ∨
      (rdWhole (rawR bs).rd = true ∧ MayP (rawR bs).rf ∧ ∃ q, v = .tuple #[.pointer (some ⟨q, 0, none⟩), .int .i64 0] ∧ Sat R (RFAt q (rawR bs).rf :: Hs) w') := by
  apply call11
  suffices H : ∀ K : Value → World → Prop, (¬ (rdWhole (rawR bs).rd = true ∧ MayP (rawR bs).rf) → ∀ w', Sat R Hs w' → K (.tuple #[.pointer none, .int .i64 6]) w') → (rdWhole (rawR bs).rd = true ∧ MayP (rawR bs).rf → ∀ q w', Sat R (RFAt q (rawR bs).rf :: Hs) w' → K (.tuple #[.pointer (some ⟨q, 0, none⟩), .int .i64 0]) w') → B11 s K w from
    H _ (fun e w' h => .inl ⟨e, rfl, h⟩) fun e q w' h => .inr ⟨e.1, e.2, q, rfl, h⟩
  intro K hK1 hK2
  have hb0 : ∀ y ∈ (⟨bs, false⟩ : Rd).bs, 0 ≤ y ∧ y < 256 := hb
  have v1 := rdNum_val (most := 9999) hb0 (by omega)
  have hb1 := rdNum_bd (most := 9999) hb0
  obtain ⟨num, rd1, e1⟩ : ∃ y rd, rdNum 9999 ⟨bs, false⟩ = (y, rd) := ⟨_, _, rfl⟩
  rw [e1] at v1 hb1
  have v2 := rdNum_val (most := 60) hb1 (by omega)
  have hb2 := rdNum_bd (most := 60) hb1
  obtain ⟨rows, rd2, e2⟩ : ∃ y rd, rdNum 60 rd1 = (y, rd) := ⟨_, _, rfl⟩
  rw [e2] at v2 hb2
  have v3 := rList_val (most := 4) (each := 10) hb2 (by omega) (by omega)
  have hb3 := rList_bd (most := 4) (each := 10) hb2
  obtain ⟨grps, rd3, e3⟩ : ∃ y rd, rList 4 10 rd2 = (y, rd) := ⟨_, _, rfl⟩
  rw [e3] at v3 hb3
  have v4 := rList_val (most := 8) (each := 10000) hb3 (by omega) (by omega)
  have hb4 := rList_bd (most := 8) (each := 10000) hb3
  obtain ⟨lims, rd4, e4⟩ : ∃ y rd, rList 8 10000 rd3 = (y, rd) := ⟨_, _, rfl⟩
  rw [e4] at v4 hb4
  have v5 := rdNum_val (most := 600) hb4 (by omega)
  have hb5 := rdNum_bd (most := 600) hb4
  obtain ⟨nz, rd5, e5⟩ : ∃ y rd, rdNum 600 rd4 = (y, rd) := ⟨_, _, rfl⟩
  rw [e5] at v5 hb5
  dsimp only at v1 v2 v3 v4 v5 hb1 hb2 hb3 hb4 hb5
  obtain ⟨n, rfl⟩ := Int.eq_ofNat_of_zero_le v5.1
  have hraw : rawR bs = ⟨num, rows, grps, lims, (rHs n rd5).1, (rHs n rd5).2⟩ := by
    unfold rawR
    simp only [e1, e2, e3, e4, e5]
    rfl
  refine new_rule hw fun b w hw => ?_
  have hw : Sat R (pts b (rrCells s 0 false) :: Hs) w := hw
  have hw : Sat R (RRdAt b s bs ⟨bs, false⟩ :: Hs) w := Sat.rrd.2 ⟨0, ⟨by omega, rfl⟩, hw⟩
  refine (rrnum_spec hl hb hs hw).use ?_
  clear hw
  rintro _ w ⟨rfl, hw⟩
  rw [e1] at hw ⊢
  refine ⟨_, rfl, ?_⟩
  refine (rrnum_spec hl hb hs hw).use ?_
  clear hw
  rintro _ w ⟨rfl, hw⟩
  rw [e2] at hw ⊢
  refine ⟨_, rfl, ?_⟩
  rw [wrap64 (x := num) (by omega) (by omega), wrap64 (x := rows) (by omega) (by omega)]
  refine new_rule hw fun q w hw => ?_
  have hw : Sat R (RRdAt b s bs rd2 :: pts q (rCells ⟨num, rows, [], [], []⟩ ⟨none, 0, 0⟩ ⟨none, 0, 0⟩ ⟨none, 0, 0⟩) :: Hs) w := hw.swap
  refine (rlist_spec (most := 4) (each := 10) (by omega) (by omega) (by omega) (by omega) hl hb hb2 hs hw).use ?_
  clear hw
  rintro _ w ⟨tg, rfl, hw⟩
  rw [e3] at hw
  refine ⟨tg, rfl, ?_⟩
  have hw : Sat R (pts q (rCells ⟨num, rows, [], [], []⟩ ⟨none, 0, 0⟩ ⟨none, 0, 0⟩ ⟨none, 0, 0⟩) :: RRdAt b s bs rd3 :: Own tg 3 (intsI grps) :: Hs) w := hw.arr
  refine store_rule hw (by kernel_rfl) rfl (by simp [Value.cells]) fun w hw => ?_
  have hw := hw.re (pts q (rCells ⟨num, rows, [], [], []⟩ tg ⟨none, 0, 0⟩ ⟨none, 0, 0⟩))
  refine (rlist_spec (most := 8) (each := 10000) (by omega) (by omega) (by omega) (by omega) hl hb hb3 hs hw.swap).use ?_
  clear hw
  rintro _ w ⟨tl, rfl, hw⟩
  rw [e4] at hw
  refine ⟨tl, rfl, ?_⟩
  have hw : Sat R (pts q (rCells ⟨num, rows, [], [], []⟩ tg ⟨none, 0, 0⟩ ⟨none, 0, 0⟩) :: RRdAt b s bs rd4 :: Own tl 3 (intsI lims) :: Own tg 3 (intsI grps) :: Hs) w := hw.arr
  refine store_rule hw (by kernel_rfl) rfl (by simp [Value.cells]) fun w hw => ?_
  have hw := hw.re (pts q (rCells ⟨num, rows, grps, lims, []⟩ tg tl ⟨none, 0, 0⟩))
  refine (rrnum_spec hl hb hs hw.swap).use ?_
  clear hw
  rintro _ w ⟨rfl, hw⟩
  rw [e5] at hw ⊢
  refine ⟨_, rfl, ?_⟩
  dsimp only at hw ⊢
  have hw : Sat R (Own tg 3 (intsI grps) :: Own tl 3 (intsI lims) :: pts q (rCells ⟨num, rows, grps, lims, []⟩ tg tl ⟨none, 0, 0⟩) :: RRdAt b s bs rd5 :: Hs) w := hw.arr
  have hw : Sat R (RO q ⟨num, rows, grps, lims, []⟩ tg tl ⟨none, 0, 0⟩ [] (RRdAt b s bs rd5 :: Hs)) w := Own.reads (hw.cons fun _ h => Own.reads (h.cons fun _ h => h.cons fun _ h => OwnN.nil (Sat.star.2 h)))
  obtain ⟨J, hJ⟩ : ∃ J : World → Prop, ∀ w, J w ↔ ∃ (sh : Sl) (ts : List Sl), ts.length = (rHs n rd5).1.length ∧ ((rHs n rd5).1.length ≤ n ∧ ∀ h ∈ (rHs n rd5).1, HoldIn h) ∧ Sat R (RO q ⟨num, rows, grps, lims, (rHs n rd5).1⟩ tg tl sh ts (RRdAt b s bs (rHs n rd5).2 :: Hs)) w := ⟨_, fun _ => Iff.rfl⟩
  refine ⟨J, ?_, ?_⟩
  · refine ⟨fun i w => ∃ (j : Nat) (acc : List Hold) (rdj : Rd) (sh : Sl) (ts : List Sl), i = j ∧ j ≤ n ∧ acc.length = j ∧ ts.length = acc.length ∧ (∀ h ∈ acc, HoldIn h) ∧ (∀ x ∈ rdj.bs, 0 ≤ x ∧ x < 256) ∧ (acc ++ (rHs (n - j) rdj).1, (rHs (n - j) rdj).2) = rHs n rd5 ∧
      Sat R (RO q ⟨num, rows, grps, lims, acc⟩ tg tl sh ts (RRdAt b s bs rdj :: Hs)) w, fun i _ => n - i.toNat, ⟨0, [], rd5, ⟨none, 0, 0⟩, [], rfl, by omega, rfl, rfl, fun h hh => (by cases hh), hb5, rfl, hw⟩, ?_⟩
    clear hw
    rintro _ _ w ⟨j, acc, rdj, sh, ts, rfl, hj, hacc, hts, hin, hbj, he, hw⟩
    have fin : (acc, rdj) = rHs n rd5 → ∀ {w}, Sat R (RO q ⟨num, rows, grps, lims, acc⟩ tg tl sh ts (RRdAt b s bs rdj :: Hs)) w → J w := fun e w hw => by
      refine (hJ w).2 ⟨sh, ts, ?_⟩
      rw [← e]
      exact ⟨hts, ⟨by show acc.length ≤ n; omega, hin⟩, hw⟩
    obtain ⟨J1, hJ1⟩ : ∃ J1 : World → Prop, ∀ w, J1 w ↔ (j < n ∧ rdj.bad = false) ∧ Sat R (RO q ⟨num, rows, grps, lims, acc⟩ tg tl sh ts (RRdAt b s bs rdj :: Hs)) w := ⟨_, fun _ => Iff.rfl⟩
    refine ⟨J1, Br.d (fun h => ?_) (fun h => ?_), ?_⟩
    · have hw2 : Sat R (RRdAt b s bs rdj :: RO q ⟨num, rows, grps, lims, acc⟩ tg tl sh ts Hs) w := hw.arr
      obtain ⟨nn, hnn, hw2⟩ := Sat.rrd.1 hw2
      refine ⟨rdj.bad, At.own (eqS hw2) (by exact ⟨rfl, trivial⟩), Br.nb (fun h4 => (hJ1 w).2 ⟨⟨by omega, h4⟩, hw⟩) (fun h4 => ?_)⟩
      obtain ⟨m, hm⟩ : ∃ m, n - j = m + 1 := ⟨n - j - 1, by omega⟩
      rw [hm, rHs_succ, if_pos h4, List.append_nil] at he
      exact fin he hw
    · rw [show n - j = 0 by omega] at he
      have he : (acc ++ [], rdj) = rHs n rd5 := he
      rw [List.append_nil] at he
      exact fin he hw
    clear hw
    intro _ w hJw
    obtain ⟨⟨hjn, h4⟩, hw⟩ := (hJ1 w).1 hJw
    clear hJw hJ1 fin
    obtain ⟨m, hm⟩ : ∃ m, n - j = m + 1 := ⟨n - j - 1, by omega⟩
    rw [hm, rHs_succ, if_neg (by rw [h4]; simp)] at he
    have hval := readHr_val hbj
    have hbn := readHr_bd hbj
    have c1 := rdNum_bd (most := 28629151) hbj
    have u1 := rdNum_val (most := 28629151) hbj (by omega)
    have c2 := rdNum_bd (most := 8) c1
    have u2 := rdNum_val (most := 8) c1 (by omega)
    have c3 := rdNum_bd (most := 600) c2
    have u3 := rdNum_val (most := 600) c2 (by omega)
    have hw : Sat R (RRdAt b s bs rdj :: RO q ⟨num, rows, grps, lims, acc⟩ tg tl sh ts Hs) w := hw.arr
    refine (rrnum_spec hl hb hs hw).use ?_
    clear hw
    rintro _ w ⟨rfl, hw⟩
    refine ⟨_, rfl, ?_⟩
    refine (rrnum_spec hl hb hs hw).use ?_
    clear hw
    rintro _ w ⟨rfl, hw⟩
    refine ⟨_, rfl, ?_⟩
    refine (rrnum_spec hl hb hs hw).use ?_
    clear hw
    rintro _ w ⟨rfl, hw⟩
    refine ⟨_, rfl, ?_⟩
    refine new_rule hw fun bh w hw => ?_
    have hw : Sat R (pts bh emH :: RRdAt b s bs (rdNum 600 (rdNum 8 (rdNum 28629151 rdj).2).2).2 :: RO q ⟨num, rows, grps, lims, acc⟩ tg tl sh ts Hs) w := hw
    refine store_rule hw (by kernel_rfl) rfl (by simp [Value.cells]) fun w hw => ?_
    rw [wrap64 (x := (rdNum 28629151 rdj).1) (by omega) (by omega), wrap64 (x := (rdNum 8 (rdNum 28629151 rdj).2).1) (by omega) (by omega), wrap64 (x := (rdNum 600 (rdNum 8 (rdNum 28629151 rdj).2).2).1) (by omega) (by omega)] at hw
    have hw := hw.re (pts bh (hCells ⟨(rdNum 28629151 rdj).1, (rdNum 8 (rdNum 28629151 rdj).2).1, (rdNum 600 (rdNum 8 (rdNum 28629151 rdj).2).2).1, []⟩ ⟨none, 0, 0⟩))
    refine (rlist_spec (most := 600) (each := 600) (by omega) (by omega) (by omega) (by omega) hl hb c3 hs hw.swap).use ?_
    clear hw
    rintro _ w ⟨t, rfl, hw⟩
    refine ⟨t, rfl, ?_⟩
    have hw : Sat R (pts bh (hCells ⟨(rdNum 28629151 rdj).1, (rdNum 8 (rdNum 28629151 rdj).2).1, (rdNum 600 (rdNum 8 (rdNum 28629151 rdj).2).2).1, []⟩ ⟨none, 0, 0⟩) :: Own t 3 (intsI (rList 600 600 (rdNum 600 (rdNum 8 (rdNum 28629151 rdj).2).2).2).1) :: RRdAt b s bs (rList 600 600 (rdNum 600 (rdNum 8 (rdNum 28629151 rdj).2).2).2).2 :: RO q ⟨num, rows, grps, lims, acc⟩ tg tl sh ts Hs) w := hw.arr
    have hw : Sat R (pts bh (hCells ⟨(rdNum 28629151 rdj).1, (rdNum 8 (rdNum 28629151 rdj).2).1, (rdNum 600 (rdNum 8 (rdNum 28629151 rdj).2).2).1, []⟩ ⟨none, 0, 0⟩) :: Own t 3 (intsI (readHr rdj).1.seats) :: RRdAt b s bs (readHr rdj).2 :: RO q ⟨num, rows, grps, lims, acc⟩ tg tl sh ts Hs) w := hw
    refine store_rule hw (by kernel_rfl) rfl (by simp [Value.cells]) fun w hw => ?_
    have hw := hw.re (pts bh (hCells (readHr rdj).1 t))
    generalize (readHr rdj).1 = hd at *
    generalize (readHr rdj).2 = rdn at *
    have hw : Sat R (pts q (rCells ⟨num, rows, grps, lims, acc⟩ tg tl sh) :: pts bh (hCells hd t) :: OwnN 4 sh 51 (rowsH acc ts) :: Reads tg (intsI grps) :: Reads tl (intsI lims) :: SeatsAt acc ts :: Own t 3 (intsI hd.seats) :: RRdAt b s bs rdn :: Hs) w := hw.arr
    have sx : ∀ {Hs' : List HP} {w}, Sat R (pts q (rCells ⟨num, rows, grps, lims, acc⟩ tg tl sh) :: pts bh (hCells hd t) :: Hs') w → Sat R [pts q (rCells ⟨num, rows, grps, lims, acc⟩ tg tl sh), pts bh (hCells hd t), VC.tru] w := fun hw => hw.cons fun _ h => h.restTru2
    refine drw_rule' (Sat R [pts q (rCells ⟨num, rows, grps, lims, acc⟩ tg tl sh), pts bh (hCells hd t), VC.tru]) hw (fun w hw => sx hw) fun w hw => ?_
    refine ⟨sh, At.own selfS (by exact ⟨rfl, trivial⟩), hd.owner, hd.cls, hd.many, t, At.own selfS (by exact ⟨rfl, rfl, rfl, rfl, trivial⟩), ?_⟩
    have hrl := rowsH_len hts
    have hw := hw.take (OwnN 4 sh 51 (rowsH acc ts))
    refine new_rule hw fun b67 w hw => ?_
    have hw : Sat R (pts b67 (.cells (rowH hd t).toArray 51 (0, 0)) :: OwnN 4 sh 51 (rowsH acc ts) :: pts q (rCells ⟨num, rows, grps, lims, acc⟩ tg tl sh) :: pts bh (hCells hd t) :: Reads tg (intsI grps) :: Reads tl (intsI lims) :: SeatsAt acc ts :: Own t 3 (intsI hd.seats) :: RRdAt b s bs rdn :: Hs) w := hw
    refine ⟨(hw.arr : Sat R (pts q (rCells ⟨num, rows, grps, lims, acc⟩ tg tl sh) :: pts bh (hCells hd t) :: pts b67 (.cells (rowH hd t).toArray 51 (0, 0)) :: OwnN 4 sh 51 (rowsH acc ts) :: Reads tg (intsI grps) :: Reads tl (intsI lims) :: SeatsAt acc ts :: Own t 3 (intsI hd.seats) :: RRdAt b s bs rdn :: Hs) w) |> sx, ?_⟩
    have hw : Sat R (OwnN 4 sh 51 (rowsH acc ts) :: pts b67 (.cells (rowH hd t).toArray 51 (0, 0)) :: pts q (rCells ⟨num, rows, grps, lims, acc⟩ tg tl sh) :: pts bh (hCells hd t) :: Reads tg (intsI grps) :: Reads tl (intsI lims) :: SeatsAt acc ts :: Own t 3 (intsI hd.seats) :: RRdAt b s bs rdn :: Hs) w := hw.swap
    refine appendN_rule (ys := [rowH hd t]) elH hw (SrcN_one ⟨_, Tryz.underlying46⟩ (b := b67) 1 hw rfl rfl) (Wid.one rfl) (by rw [List.length_singleton]; omega) (by rw [List.length_singleton]; omega) fun s2 w hw => ?_
    have hw : Sat R (pts q (rCells ⟨num, rows, grps, lims, acc⟩ tg tl sh) :: pts bh (hCells hd t) :: OwnN 4 s2 51 (rowsH acc ts ++ [rowH hd t]) :: Reads tg (intsI grps) :: Reads tl (intsI lims) :: SeatsAt acc ts :: Own t 3 (intsI hd.seats) :: RRdAt b s bs rdn :: Hs) w := (hw.take (pts b67 (.cells (rowH hd t).toArray 51 (0, 0)))).drop.arr
    refine ⟨sx hw, ?_⟩
    refine store_rule hw (by kernel_rfl) rfl (by simp [Value.cells]) fun w hw => ?_
    have hw := hw.re (pts q (rCells ⟨num, rows, grps, lims, acc ++ [hd]⟩ tg tl s2))
    rw [wrapU64 (by omega) (by omega)]
    refine ⟨⟨j + 1, acc ++ [hd], rdn, s2, ts ++ [t], by omega, by omega, by simp [hacc], by simp [hts], fun h hh => ?_, hbn, ?_, ?_⟩, by dsimp only; omega⟩
    · rcases List.mem_append.1 hh with hh | hh
      · exact hin h hh
      · rw [List.mem_singleton.1 hh]; exact hval
    · rw [show n - (j + 1) = m by omega, ← he, List.append_assoc]; rfl
    · have e6 := rowsH_snoc hts hd t
      have hw : Sat R (Reads tg (intsI grps) :: Reads tl (intsI lims) :: pts q (rCells ⟨num, rows, grps, lims, acc ++ [hd]⟩ tg tl s2) :: OwnN 4 s2 51 (rowsH acc ts ++ [rowH hd t]) :: Own t 3 (intsI hd.seats) :: SeatsAt acc ts :: RRdAt b s bs rdn :: Hs) w :=
        (hw.take (pts bh (hCells hd t))).drop.arr
      rw [← e6] at hw
      refine hw.cons fun _ h => h.cons fun _ h => h.cons fun _ h => h.cons fun _ h => ?_
      have h7 := SeatsAt.ins (k := acc.length) hts (Nat.le_refl _) (Own.reads h)
      rw [List.take_length, List.drop_length, ← hts, List.take_length, List.drop_length] at h7
      exact h7
  · clear hw
    intro _ w hJw
    obtain ⟨sh, ts, hts, ⟨hnl, hin⟩, hw⟩ := (hJ w).1 hJw
    clear hJw hJ
    have hrf : (rawR bs).rf = ⟨num, rows, grps, lims, (rHs n rd5).1⟩ := by rw [hraw]; rfl
    have hrd : (rawR bs).rd = (rHs n rd5).2 := by rw [hraw]
    rw [hrf, hrd] at hK1 hK2
    have hw : Sat R (RRdAt b s bs (rHs n rd5).2 :: RO q ⟨num, rows, grps, lims, (rHs n rd5).1⟩ tg tl sh ts Hs) w := hw.arr
    refine (rrwhole_spec hs hw).use ?_
    clear hw
    rintro _ w ⟨rfl, hw⟩
    have hw := hw.drop
    refine ⟨_, rfl, Br.mk (fun h1 => ?_) (fun h1 => hK1 (fun h2 => by rw [h2.1] at h1; cases h1) _ ?_)⟩
    · obtain ⟨R', ee, h, hw, back⟩ := RO.out hts hw
      refine (may_spec h ⟨by show grps.length ≤ _; omega, by show lims.length ≤ _; omega, by show (rHs n rd5).1.length ≤ _; omega, hin⟩ hw).use ?_
      clear hw
      rintro _ w ⟨hv, hw⟩
      have hw := back _ _ hw
      rcases hv with ⟨hm, rfl⟩ | ⟨hm, rfl⟩
      · exact ⟨_, rfl, Br.f rfl (hK2 ⟨h1, hm⟩ _ _ (Sat.rf.2 ⟨tg, tl, sh, ts, hts, hw⟩))⟩
      · exact ⟨_, rfl, Br.t rfl (hK1 (fun h2 => hm h2.2) _ hw.drop.drop.drop.drop.drop)⟩
    · exact hw.drop.drop.drop.drop.drop
end Go.Proofs.YtaacfjdknlglhaaGreatDoor
/- A flight, plain: which bytes are one, by the program and by the document. Condition: none. -/
namespace Go.Proofs.YtaacfjdknlglhaaGreatDoor
set_option linter.unusedVariables false
open Go Go.VC

/-! ### Readers that go on, and that stop -/
theorem rdNum_bad {most : Int} {r : Rd} (h : r.bad = true) : rdNum most r = (0, r) := by unfold rdNum; rw [if_pos h]
theorem nMany_bad {each : Int} : ∀ (k : Nat) {r : Rd}, r.bad = true → (nMany k each r).2.bad = true
  | 0, _, h => h
  | k + 1, r, h => by show (nMany k each (rdNum each r).2).2.bad = true; rw [rdNum_bad h]; exact nMany_bad k h
theorem nMany_eq {each : Int} : ∀ (k : Nat) {r : Rd}, (nMany k each r).2.bad = false → rMany k each r = nMany k each r
  | 0, _, _ => rfl
  | k + 1, r, h => by
    have hr : r.bad = false := by cases e : r.bad with | false => rfl | true => rw [nMany_bad (k + 1) e] at h; cases h
    rw [rMany_succ, if_neg (by rw [hr]; simp), nMany_eq k h]; rfl
theorem rMany_eq {each : Int} : ∀ (k : Nat) {r : Rd}, (rMany k each r).2.bad = false → rMany k each r = nMany k each r
  | 0, _, _ => rfl
  | k + 1, r, h => by
    have hr : r.bad = false := by cases e : r.bad with | false => rfl | true => rw [rMany_bad e (k + 1)] at h; rw [e] at h; cases h
    rw [rMany_succ, if_neg (by rw [hr]; simp)] at h ⊢
    rw [rMany_eq k h]; rfl
theorem nList_bad {most each : Int} {r : Rd} (h : r.bad = true) : (nList most each r).2.bad = true := by unfold nList; rw [rdNum_bad h]; exact nMany_bad _ h
theorem rList_bad {most each : Int} {r : Rd} (h : r.bad = true) : (rList most each r).2.bad = true := by unfold rList; rw [rdNum_bad h]; show (rMany 0 each r).2.bad = true; exact h
theorem nList_eq {most each : Int} {r : Rd} (h : (nList most each r).2.bad = false) : rList most each r = nList most each r := nMany_eq _ h
theorem rList_eq {most each : Int} {r : Rd} (h : (rList most each r).2.bad = false) : rList most each r = nList most each r := rMany_eq _ h
theorem readH_bad {r : Rd} (h : r.bad = true) : (readH r).2.bad = true := by unfold readH; rw [rdNum_bad h, rdNum_bad h, rdNum_bad h]; exact nList_bad h
theorem readH_eq {r : Rd} (h : (readH r).2.bad = false) : readHr r = readH r := by unfold readHr readH; rw [nList_eq h]
theorem readHr_eq {r : Rd} (h : (readHr r).2.bad = false) : readHr r = readH r := by unfold readHr readH; rw [rList_eq h]
theorem readHs_bad : ∀ (k : Nat) {r : Rd}, r.bad = true → (readHs k r).2.bad = true
  | 0, _, h => h
  | k + 1, r, h => readHs_bad k (readH_bad h)
theorem rHs_bad {r : Rd} (h : r.bad = true) : ∀ k, rHs k r = ([], r)
  | 0 => rfl
  | k + 1 => by rw [rHs_succ, if_pos h]
theorem readHs_eq : ∀ (k : Nat) {r : Rd}, (readHs k r).2.bad = false → rHs k r = readHs k r
  | 0, _, _ => rfl
  | k + 1, r, h => by
    have hr : r.bad = false := by cases e : r.bad with | false => rfl | true => rw [readHs_bad (k + 1) e] at h; cases h
    have h : (readHs k (readH r).2).2.bad = false := h
    have h2 : (readH r).2.bad = false := by cases e : (readH r).2.bad with | false => rfl | true => rw [readHs_bad k e] at h; cases h
    rw [rHs_succ, if_neg (by rw [hr]; simp), readH_eq h2, readHs_eq k h]; rfl
theorem rHs_eq : ∀ (k : Nat) {r : Rd}, (rHs k r).2.bad = false → rHs k r = readHs k r
  | 0, _, _ => rfl
  | k + 1, r, h => by
    have hr : r.bad = false := by cases e : r.bad with | false => rfl | true => rw [rHs_bad e (k + 1)] at h; rw [e] at h; cases h
    rw [rHs_succ, if_neg (by rw [hr]; simp)] at h ⊢
    have h : (rHs k (readHr r).2).2.bad = false := h
    have h2 : (readHr r).2.bad = false := by cases e : (readHr r).2.bad with | false => rfl | true => rw [rHs_bad e k] at h; rw [e] at h; cases h
    rw [readHr_eq h2] at h ⊢
    rw [rHs_eq k h]; rfl
theorem bad_cases {a b : Rd} (h : a.bad = true → b.bad = true) (hb : b.bad = false) : a.bad = false := by
  cases e : a.bad with
  | false => rfl
  | true => rw [h e] at hb; cases hb
theorem rawD_eq {bs : List Int} (h : (rawD bs).rd.bad = false) : rawR bs = rawD bs := by
  unfold rawD at h
  dsimp only at h
  have h1 := bad_cases (readHs_bad _) h
  have h2 := bad_cases (fun e => by rw [rdNum_bad e]; exact e) h1
  have h3 := bad_cases nList_bad h2
  unfold rawR rawD
  dsimp only
  rw [nList_eq h3, nList_eq h2, readHs_eq _ h]
theorem rawR_eq {bs : List Int} (h : (rawR bs).rd.bad = false) : rawR bs = rawD bs := by
  unfold rawR at h
  dsimp only at h
  have h1 := bad_cases (fun e => by rw [rHs_bad e]; exact e) h
  have h2 := bad_cases (fun e => by rw [rdNum_bad e]; exact e) h1
  have h3 := bad_cases rList_bad h2
  have e3 := rList_eq h3
  rw [e3] at h2 h
  have e4 := rList_eq h2
  rw [e4] at h
  unfold rawR rawD
  dsimp only
  rw [e3, e4, rHs_eq _ h]
theorem whole_bad {r : Rd} (h : rdWhole r = true) : r.bad = false := by
  unfold rdWhole at h
  cases e : r.bad with
  | false => rfl
  | true => rw [e] at h; cases h
theorem raw_whole (bs : List Int) : rdWhole (rawR bs).rd = rdWhole (rawD bs).rd ∧ (rdWhole (rawD bs).rd = true → rawR bs = rawD bs) := by
  constructor
  · cases e : (rawD bs).rd.bad with
    | false => rw [rawD_eq e]
    | true =>
      cases e2 : (rawR bs).rd.bad with
      | false => rw [rawR_eq e2]
      | true => unfold rdWhole; rw [e, e2]; rfl
  · exact fun h => rawD_eq (whole_bad h)

/-! ### One hold more -/
theorem nest_sell_iff {lim sold : List Int} {c many : Int} (hn : nestOk lim sold = true) (c0 : 0 ≤ c) (c1 : c < lim.length) (m0 : 1 ≤ many) (m1 : many ≤ 10000) (h : nestOk lim (sold.set c.toNat (sold.getD c.toNat 0 + many)) = true) : (sellT lim sold c many).2 = 0 := by
  obtain ⟨i1, i2, i3⟩ := nestOk_iff.1 hn
  obtain ⟨_, _, k3⟩ := nestOk_iff.1 h
  have hl : leftT lim sold c = (mnF (roomF lim sold) (c.toNat + 1), 0) := by unfold leftT; rw [if_pos ⟨hn, c0, c1⟩]
  have hm := mnF_is (roomF lim sold) (c.toNat + 1)
  have hle : many ≤ mnF (roomF lim sold) (c.toNat + 1) := by
    rcases hm.2.2 with e | ⟨k, _, hk, e⟩
    · omega
    · rw [e]
      have hf := fromN_add (sold := sold) (c := c.toNat) (m := many) (by omega) (lim.length - k) k (by omega)
      rw [if_pos (by omega)] at hf
      have := (k3 k (by omega)).2
      unfold roomF
      omega
  unfold sellT
  rw [hl]
  dsimp only
  rw [if_neg (by omega), if_neg (by omega)]

variable {f : PF} {r : RF}
theorem tie_tell {A C : List Hold} {h : Hold} {n : Int} (t : Tie f r) (g : Good r) (hL : r.L = A ++ h :: C) (hA : getO h.owner A = none) (h4 : n ∉ takenL r.L) (hb : 0 ≤ n ∧ n < layN r.rows r.grps) (hm : (h.seats.length : Int) < h.many) :
    Tie (tellF f h.owner n) { r with L := A ++ h.put n :: C } ∧ Good { r with L := A ++ h.put n :: C } := by
  have hh := g.each h (by rw [hL]; simp)
  have hg : getM h.owner f.hs = some h := by rw [t.get g.rise, hL]; exact getO_app rfl hA
  have e : tellF f h.owner n = { f with hs := setM h.owner (h.put n) f.hs, own := putM n h.owner f.own } := by unfold tellF; rw [hg]
  rw [e]
  have hnh : n ∉ h.seats := fun e => h4 (mem_taken.2 ⟨h, by rw [hL]; simp, e⟩)
  have hs : ∀ x ∈ (h.put n).seats, x ∈ h.seats ∨ (x ∉ takenL r.L ∧ 0 ≤ x ∧ x < layN r.rows r.grps) := fun x hx => by
    rcases mem_insS.1 hx with rfl | hx
    · exact .inr ⟨h4, hb⟩
    · exact .inl hx
  refine ⟨tie_set (h' := h.put n) t g hL hA rfl rfl rfl (fun x hx => (hs x hx).imp id (·.1)) (putM_nodup t.nod) fun x => ?_, good_set (h' := h.put n) g hL rfl rfl rfl ?_ ?_ hs⟩
  · rw [getM_putM]
    show _ = if x ∈ insS n h.seats then some h.owner else _
    by_cases hx : x = n
    · rw [if_pos hx, if_pos (mem_insS.2 (.inl hx))]
    · rw [if_neg hx]
      by_cases hx2 : x ∈ h.seats
      · rw [if_pos (mem_insS.2 (.inr hx2))]
        exact (t.own x h.owner).2 ⟨h, by rw [hL]; simp, rfl, hx2⟩
      · rw [if_neg (fun e => (mem_insS.1 e).elim hx hx2), if_neg hx2]
  · exact rise_iff.2 (insS_pw (rise_iff.1 hh.rise) hnh)
  · show ((insS n h.seats).length : Int) ≤ _
    rw [insS_len]; omega

/-- The seats that are still to be told, behind last. -/
def SOk (N : Int) (T : List Int) : List Int → Int → Prop
  | [], _ => True
  | n :: l, last => n ∉ T ∧ last < n ∧ n < N ∧ SOk N T l n
theorem takenL_snoc (P : List Hold) (h : Hold) : takenL (P ++ [h]) = takenL P ++ h.seats := by simp [takenL]
theorem tie_res {P : List Hold} {h : Hold} : ∀ (l acc : List Int) (last : Int) {f : PF} {r : RF}, Tie f r → Good r → r.L = P ++ [{ h with seats := acc }] → (acc.length + l.length : Int) ≤ h.many → (∀ x ∈ acc, x ≤ last) → -1 ≤ last →
    ((resGo h.owner (layN r.rows r.grps) l last f).2 = true ↔ SOk (layN r.rows r.grps) (takenL P) l last) ∧
    ((resGo h.owner (layN r.rows r.grps) l last f).2 = true → Tie (resGo h.owner (layN r.rows r.grps) l last f).1 { r with L := P ++ [{ h with seats := acc ++ l }] } ∧ Good { r with L := P ++ [{ h with seats := acc ++ l }] })
  | [], acc, last, f, r, t, g, hL, _, _, _ => by
    refine ⟨⟨fun _ => trivial, fun _ => rfl⟩, fun _ => ?_⟩
    rw [List.append_nil, ← hL]
    exact ⟨t, g⟩
  | n :: l, acc, last, f, r, t, g, hL, hm, hacc, hlast => by
    rw [resGo_cons]
    have hown : getO h.owner P = none := by
      have h5 := g.rise
      rw [hL] at h5
      refine getO_none.2 fun x hx e => ?_
      have := (List.pairwise_append.1 h5).2.2 x hx _ (List.mem_singleton.2 rfl)
      dsimp only at this
      omega
    have htk : takenL r.L = takenL P ++ acc := by rw [hL, takenL_snoc]
    rw [List.length_cons] at hm
    show _ ∧ _
    by_cases h1 : (getM n f.own).isSome = true
    · rw [if_pos h1]
      refine ⟨⟨fun e => (by cases e), fun e => ?_⟩, fun e => by cases e⟩
      have h2 := (t.taken n).1 h1
      rw [htk] at h2
      rcases List.mem_append.1 h2 with h2 | h2
      · exact absurd h2 e.1
      · have := hacc n h2; have := e.2.1; omega
    rw [if_neg h1]
    have hnt : n ∉ takenL r.L := fun e => h1 ((t.taken n).2 e)
    by_cases h2 : n ≤ last
    · rw [if_pos h2]
      exact ⟨⟨fun e => (by cases e), fun e => by have := e.2.1; omega⟩, fun e => by cases e⟩
    rw [if_neg h2]
    by_cases h3 : n ≥ layN r.rows r.grps
    · rw [if_pos h3]
      exact ⟨⟨fun e => (by cases e), fun e => by have := e.2.2.1; omega⟩, fun e => by cases e⟩
    rw [if_neg h3]
    have hsp : r.L = P ++ { h with seats := acc } :: [] := hL
    have hins : insS n acc = acc ++ [n] := insS_end fun x hx => by have := hacc x hx; omega
    obtain ⟨t2, g2⟩ := tie_tell (h := { h with seats := acc }) t g hsp hown hnt ⟨by omega, by omega⟩ (by show (acc.length : Int) < h.many; omega)
    have e2 : (Hold.put { h with seats := acc } n) = { h with seats := acc ++ [n] } := by unfold Hold.put; rw [hins]
    rw [e2] at t2 g2
    have ih := tie_res l (acc ++ [n]) n t2 g2 rfl (by rw [List.length_append]; simp; omega) (fun x hx => by
      rcases List.mem_append.1 hx with hx | hx
      · have := hacc x hx; omega
      · rw [List.mem_singleton.1 hx]; exact Int.le_refl _) (by omega)
    refine ⟨ih.1.trans ⟨fun e => ⟨fun hn => hnt (by rw [htk]; exact List.mem_append_left _ hn), by omega, by omega, e⟩, fun e => e.2.2.2⟩, fun e => ?_⟩
    have h7 := ih.2 e
    rw [List.append_assoc] at h7
    exact h7

theorem insH_end {h : Hold} : ∀ {P : List Hold}, (∀ x ∈ P, x.owner < h.owner) → insH h P = P ++ [h]
  | [], _ => rfl
  | x :: P, hp => by
    unfold insH
    rw [if_pos (hp x List.mem_cons_self), insH_end fun y hy => hp y (List.mem_cons_of_mem _ hy)]; rfl

structure AddOk (r : RF) (h : Hold) : Prop where
  c : h.cls < r.lims.length
  m : 1 ≤ h.many
  n : (h.seats.length : Int) ≤ h.many
  s : SOk (layN r.rows r.grps) (takenL r.L) h.seats (-1)
  nest : nestOk r.lims (soldL r.lims.length (r.L ++ [h])) = true
theorem tie_restore {h : Hold} (t : Tie f r) (g : Good r) (hin : HoldIn h) (ho : 1 ≤ h.owner) (hlt : ∀ x ∈ r.L, x.owner < h.owner) :
    ((restoreF f h).2 = true ↔ AddOk r h) ∧ ((restoreF f h).2 = true → Tie (restoreF f h).1 { r with L := r.L ++ [h] } ∧ Good { r with L := r.L ++ [h] }) := by
  obtain ⟨t1, t2, t3⟩ := tie_take t g h.owner h.cls h.many
  have hno : ¬ (getO h.owner r.L).isSome = true := by
    rw [getO_none.2 fun x hx e => by have := hlt x hx; omega]; simp
  have hio := hin.o
  have er : rtakeF r h.owner h.cls h.many = if (sellT r.lims r.sold h.cls h.many).2 = 0 then ({ r with L := insH ⟨h.owner, h.cls, h.many, []⟩ r.L }, 0) else (r, (sellT r.lims r.sold h.cls h.many).2) := by
    unfold rtakeF; rw [if_neg (by omega), if_neg hno]
  have hins : insH ⟨h.owner, h.cls, h.many, []⟩ r.L = r.L ++ [⟨h.owner, h.cls, h.many, []⟩] := insH_end hlt
  have hsl : ∀ {L : List Hold}, h.cls < r.lims.length → r.sold.set h.cls.toNat (r.sold.getD h.cls.toNat 0 + h.many) = soldL r.lims.length (r.L ++ [h]) := fun hc => soldL_put (List.perm_append_comm) hin.c.1 hc
  unfold restoreF
  rw [t1, er]
  by_cases hs : (sellT r.lims r.sold h.cls h.many).2 = 0
  · rw [if_pos hs]
    rw [er, if_pos hs, hins] at t2 t3
    obtain ⟨e1, e2, c0, c1, hm⟩ := nest_sell hs
    rw [e1, hsl (L := r.L) c1] at e2
    rw [if_neg (by simp)]
    by_cases hn : (h.seats.length : Int) > h.many
    · rw [if_pos hn]
      exact ⟨⟨fun e => (by cases e), fun e => by have := e.n; omega⟩, fun e => by cases e⟩
    rw [if_neg hn]
    have hlay : layN f.rows f.grps = layN r.rows r.grps := by rw [t.rows, t.grps]
    rw [hlay]
    obtain ⟨i1, i2⟩ := tie_res (P := r.L) (h := h) h.seats [] (-1) t2 t3 rfl (by simp; omega) (fun x hx => by cases hx) (by omega)
    refine ⟨i1.trans ⟨fun e => ⟨c1, hm, by omega, e, e2⟩, fun e => e.s⟩, fun e => ?_⟩
    have h7 := i2 e
    rw [List.nil_append] at h7
    exact h7
  · rw [if_neg hs, if_pos hs]
    refine ⟨⟨fun e => (by cases e), fun e => ?_⟩, fun e => by cases e⟩
    exact absurd (nest_sell_iff g.nest hin.c.1 e.c e.m (by have := hin.m.2; omega) (by rw [hsl (L := r.L) e.c]; exact e.nest)) hs

/-! ### All of them -/
theorem fine0_iff {num rows : Int} {grps lims : List Int} : fine0 num rows grps lims = true ↔ 1 ≤ num ∧ layOk rows grps = true ∧ limOk lims = true ∧ lims.getD 0 0 = layN rows grps := by
  unfold fine0
  simp only [Bool.and_eq_true, decide_eq_true_eq, beq_iff_eq]
  constructor
  · rintro ⟨h1, h2, h3, h4⟩
    exact ⟨by omega, h2, (nestOk_iff.1 h3).1, h4⟩
  · rintro ⟨h1, h2, h3, h4⟩
    exact ⟨by omega, h2, nest_zero h3, h4⟩
theorem sok_iff {N : Int} {T : List Int} : ∀ {l : List Int} {last : Int}, SOk N T l last ↔ ∀ k (hk : k < l.length), l[k] ∉ T ∧ l[k] < N ∧ (if h : 0 < k then l[k - 1] < l[k] else last < l[k])
  | [], _ => by simp [SOk]
  | n :: l, last => by
    unfold SOk
    rw [sok_iff (l := l) (last := n)]
    constructor
    · rintro ⟨h1, h2, h3, h4⟩ k hk
      rcases k with _ | k
      · exact ⟨h1, h3, h2⟩
      · have h5 := h4 k (by simpa using hk)
        refine ⟨h5.1, h5.2.1, ?_⟩
        rw [dif_pos (by omega)]
        have h6 := h5.2.2
        rcases k with _ | k
        · exact h6
        · rw [dif_pos (by omega)] at h6; exact h6
    · intro h
      have h0 := h 0 (by simp)
      refine ⟨h0.1, h0.2.2, h0.2.1, fun k hk => ?_⟩
      have h5 := h (k + 1) (by simpa using hk)
      refine ⟨h5.1, h5.2.1, ?_⟩
      have h6 := h5.2.2
      rw [dif_pos (by omega)] at h6
      rcases k with _ | k
      · exact h6
      · rw [dif_pos (by omega)]; exact h6

structure RawIn (x : Raw) : Prop where
  num : x.num ≤ 9999
  hs : ∀ h ∈ x.L, HoldIn h
/-- The state behind j holds. -/
def Raw.at (x : Raw) (j : Nat) : PS := (x.L.take j).foldl stepD (emptyF x.num x.rows x.grps x.lims, fine0 x.num x.rows x.grps x.lims, 0)
def Raw.pre (x : Raw) (j : Nat) : RF := ⟨x.num, x.rows, x.grps, x.lims, x.L.take j⟩
def lastO (x : Raw) (j : Nat) : Int := if h : 0 < j ∧ j ≤ x.L.length then x.L[j - 1].owner else 0
theorem at_succ {x : Raw} {j : Nat} (h : j < x.L.length) : x.at (j + 1) = stepD (x.at j) x.L[j] := by
  unfold Raw.at
  rw [List.take_add_one, List.getElem?_eq_getElem h, List.foldl_append]; rfl
theorem owR_lt {L : List Hold} {o : Int} (h : OwR L) : ∀ (hl : 0 < L.length), L[L.length - 1].owner < o → ∀ x ∈ L, x.owner < o := fun hl hlast x hx => by
  obtain ⟨i, hi, rfl⟩ := List.getElem_of_mem hx
  by_cases e : i = L.length - 1
  · subst e; exact hlast
  · have := List.pairwise_iff_getElem.1 h i (L.length - 1) hi (by omega) (by omega)
    omega
theorem okAt_add {x : Raw} (xi : RawIn x) {j : Nat} (hj : j < x.L.length) (hr : ∀ y ∈ x.L.take j, y.owner < x.L[j].owner) :
    OkAt x.rf j hj ↔ (1 ≤ x.L[j].owner ∧ (∀ h : 0 < j, x.L[j - 1].owner < x.L[j].owner) ∧ x.L[j].cls < x.lims.length ∧ 1 ≤ x.L[j].many ∧ (x.L[j].seats.length : Int) ≤ x.L[j].many ∧ SOk (layN x.rows x.grps) (takenL (x.L.take j)) x.L[j].seats (-1)) := by
  have hin := xi.hs x.L[j] (List.getElem_mem _)
  rw [sok_iff]
  constructor
  · intro h
    refine ⟨h.o, h.p, h.c, h.m, h.n, fun k hk => ?_⟩
    have h1 := h.s k hk
    refine ⟨fun hm => h1.1 (List.mem_append_left _ hm), h1.2.1, ?_⟩
    split
    · exact h1.2.2 (by assumption)
    · have := hin.s x.L[j].seats[k] (List.getElem_mem _); omega
  · rintro ⟨h1, h2, h3, h4, h5, h6⟩
    refine ⟨h1, h2, h3, h4, h5, fun k hk => ?_⟩
    have h7 := h6 k hk
    have hrise : ∀ (t i : Nat) (hi : i + t < x.L[j].seats.length), 0 < t → x.L[j].seats[i]'(by omega) < x.L[j].seats[i + t] := fun t => by
      induction t with
      | zero => intro i hi h0; omega
      | succ t ih =>
        intro i hi _
        have h8 := (h6 (i + (t + 1)) hi).2.2
        rw [dif_pos (by omega)] at h8
        by_cases ht : t = 0
        · subst ht; exact h8
        · have h9 := ih i (by omega) (by omega)
          have h8 : x.L[j].seats[i + t]'(by omega) < x.L[j].seats[i + (t + 1)] := h8
          omega
    refine ⟨fun hm => ?_, h7.2.1, fun h0 => by have h8 := h7.2.2; rw [dif_pos h0] at h8; exact h8⟩
    rcases List.mem_append.1 hm with hm | hm
    · exact h7.1 hm
    · obtain ⟨i, hi, he⟩ := List.getElem_of_mem hm
      rw [List.length_take] at hi
      rw [List.getElem_take] at he
      have hk' : k < x.L[j].seats.length := hk
      have hi : i < min k x.L[j].seats.length := hi
      have he : x.L[j].seats[i]'(by omega) = x.L[j].seats[k] := he
      have h9 := hrise (k - i) i (by omega) (by omega)
      have e : i + (k - i) = k := by omega
      simp only [e] at h9
      omega

theorem at_good {x : Raw} (xi : RawIn x) : ∀ j, j ≤ x.L.length → (x.at j).2.2 = lastO x j ∧ ((x.at j).2.1 = true → Tie (x.at j).1 (x.pre j) ∧ Good (x.pre j) ∧ ∀ i (hi : i < x.L.length), i < j → OkAt x.rf i hi)
  | 0, _ => by
    refine ⟨rfl, fun h => ?_⟩
    obtain ⟨h1, h2, h3, h4⟩ := fine0_iff.1 h
    refine ⟨tie_new, ⟨⟨h1, xi.num⟩, h2, ?_, h4, List.Pairwise.nil, fun h hh => (by cases hh), List.Pairwise.nil⟩, fun i _ hi => by omega⟩
    show nestOk _ (soldL _ []) = true
    rw [soldL_nil]; exact nest_zero h3
  | j + 1, hj => by
    have hj1 : j < x.L.length := by omega
    obtain ⟨i1, i2⟩ := at_good xi j (by omega)
    have hlast : lastO x (j + 1) = x.L[j].owner := by unfold lastO; rw [dif_pos ⟨by omega, hj⟩]; rfl
    rw [at_succ hj1, hlast]
    unfold stepD
    by_cases hc : (x.at j).2.1 = true ∧ x.L[j].owner > (x.at j).2.2
    · rw [if_pos hc]
      refine ⟨rfl, fun h => ?_⟩
      obtain ⟨t, g, hok⟩ := i2 hc.1
      rw [i1] at hc
      have hin := xi.hs x.L[j] (List.getElem_mem _)
      have hlt : ∀ y ∈ (x.pre j).L, y.owner < x.L[j].owner := fun y hy => by
        have hne : 0 < (x.pre j).L.length := List.length_pos_iff.2 fun e => by rw [e] at hy; cases hy
        refine owR_lt g.rise hne ?_ y hy
        have hl : (x.pre j).L.length = j := by show (x.L.take j).length = j; rw [List.length_take]; omega
        have h2 := hc.2
        unfold lastO at h2
        rw [dif_pos ⟨by omega, by omega⟩] at h2
        have h3 : (x.pre j).L[(x.pre j).L.length - 1] = x.L[j - 1] := by
          show (x.L.take j)[(x.L.take j).length - 1]'(by rw [List.length_take]; omega) = _
          rw [List.getElem_take]
          congr 1
          rw [List.length_take]; omega
        rw [h3]; exact h2
      have ho1 : 1 ≤ x.L[j].owner := by
        have h2 := hc.2
        unfold lastO at h2
        split at h2
        · have := (xi.hs x.L[j - 1] (List.getElem_mem _)).o; omega
        · omega
      obtain ⟨r1, r2⟩ := tie_restore t g hin ho1 hlt
      have e : { x.pre j with L := (x.pre j).L ++ [x.L[j]] } = x.pre (j + 1) := by
        unfold Raw.pre
        rw [List.take_add_one, List.getElem?_eq_getElem hj1]; rfl
      have h5 := r2 h
      rw [e] at h5
      refine ⟨h5.1, h5.2, fun i hi hij => ?_⟩
      by_cases hie : i = j
      · subst hie
        have ha := r1.1 h
        refine (okAt_add xi hj1 hlt).2 ⟨ho1, fun h0 => ?_, ha.c, ha.m, ha.n, ha.s⟩
        have h2 := hc.2
        unfold lastO at h2
        rw [dif_pos ⟨by omega, by omega⟩] at h2
        exact h2
      · exact hok i hi (by omega)
    · rw [if_neg hc]
      exact ⟨rfl, fun h => by cases h⟩

theorem may_at {x : Raw} (xi : RawIn x) (m : MayP x.rf) : ∀ j, j ≤ x.L.length → (x.at j).2.1 = true
  | 0, _ => fine0_iff.2 ⟨m.num, m.lay, m.lim, m.l0⟩
  | j + 1, hj => by
    have hj1 : j < x.L.length := by omega
    have ih := may_at xi m j (by omega)
    obtain ⟨i1, i2⟩ := at_good xi j (by omega)
    obtain ⟨t, g, hok⟩ := i2 ih
    have hin := xi.hs x.L[j] (List.getElem_mem _)
    have ok := m.each j hj1
    rw [at_succ hj1]
    have hgt : x.L[j].owner > (x.at j).2.2 := by
      rw [i1]
      unfold lastO
      split
      · rename_i h; exact ok.p h.1
      · have := ok.o; show 0 < x.L[j].owner; exact this
    have hlt : ∀ y ∈ (x.pre j).L, y.owner < x.L[j].owner := fun y hy => by
      have hne : 0 < (x.pre j).L.length := List.length_pos_iff.2 fun e => by rw [e] at hy; cases hy
      refine owR_lt g.rise hne ?_ y hy
      have hl : (x.pre j).L.length = j := by show (x.L.take j).length = j; rw [List.length_take]; omega
      have h3 : (x.pre j).L[(x.pre j).L.length - 1] = x.L[j - 1] := by
        show (x.L.take j)[(x.L.take j).length - 1]'(by rw [List.length_take]; omega) = _
        rw [List.getElem_take]
        congr 1
        rw [List.length_take]; omega
      rw [h3]; exact ok.p (by omega)
    unfold stepD
    rw [if_pos ⟨ih, hgt⟩]
    refine (tie_restore t g hin ok.o hlt).1.2 ?_
    have ha := (okAt_add xi hj1 hlt).1 ok
    refine ⟨ha.2.2.1, ha.2.2.2.1, ha.2.2.2.2.1, ha.2.2.2.2.2, ?_⟩
    have e : (x.pre j).L ++ [x.L[j]] = x.L.take (j + 1) := by
      show x.L.take j ++ _ = _
      rw [List.take_add_one, List.getElem?_eq_getElem hj1]; rfl
    rw [e]
    show nestOk x.lims (soldL x.lims.length (x.L.take (j + 1))) = true
    refine nest_le m.nest (by show (soldL _ _).length = (soldL _ _).length; rw [soldL_len, soldL_len]; rfl) fun k hk => ?_
    have hk : k < x.lims.length := hk
    show 0 ≤ (soldL x.lims.length (x.L.take (j + 1))).getD k 0 ∧ (soldL x.lims.length (x.L.take (j + 1))).getD k 0 ≤ (soldL x.lims.length x.L).getD k 0
    rw [soldL_getD hk, soldL_getD hk]
    have hmm : ∀ y ∈ x.L, 1 ≤ y.many := fun y hy => by
      obtain ⟨i, hi, rfl⟩ := List.getElem_of_mem hy
      exact (m.each i hi).m
    refine ⟨cntL_nn fun y hy => hmm y (List.mem_of_mem_take hy), ?_⟩
    have h8 : cntL (k : Int) x.L = cntL (k : Int) (x.L.take (j + 1)) + cntL (k : Int) (x.L.drop (j + 1)) := by rw [← cntL_app, List.take_append_drop]
    have h9 := cntL_nn (k := (k : Int)) (L := x.L.drop (j + 1)) fun y hy => hmm y (List.mem_of_mem_drop hy)
    omega

theorem run_at (x : Raw) : x.run = x.at x.L.length ∧ x.rf = x.pre x.L.length := by
  constructor
  · unfold Raw.run Raw.at; rw [List.take_length]
  · unfold Raw.rf Raw.pre; rw [List.take_length]
theorem run_iff {x : Raw} (xi : RawIn x) : (x.run.2.1 = true ↔ MayP x.rf) ∧ (x.run.2.1 = true → Tie x.run.1 x.rf ∧ Good x.rf) := by
  obtain ⟨e1, e2⟩ := run_at x
  have h := (at_good xi x.L.length (Nat.le_refl _)).2
  rw [← e1, ← e2] at h
  refine ⟨⟨fun hr => ?_, fun m => by rw [e1]; exact may_at xi m _ (Nat.le_refl _)⟩, fun hr => ⟨(h hr).1, (h hr).2.1⟩⟩
  obtain ⟨t, g, hok⟩ := h hr
  exact ⟨g.num.1, g.lay, (nestOk_iff.1 g.nest).1, g.l0, fun j hj => hok j hj hj, g.nest⟩

theorem rawD_in {bs : List Int} (hb : ∀ y ∈ bs, 0 ≤ y ∧ y < 256) : RawIn (rawD bs) := by
  have hb0 : ∀ y ∈ (⟨bs, false⟩ : Rd).bs, 0 ≤ y ∧ y < 256 := hb
  have h5 := rdNum_bd (most := 600) (nList_bd (most := 8) (each := 10000) (nList_bd (most := 4) (each := 10) (rdNum_bd (most := 60) (rdNum_bd (most := 9999) hb0))))
  exact ⟨(rdNum_val (most := 9999) hb0 (by omega)).2, (readHs_val _ h5).1⟩

/-- The bytes are a flight by both, or by none. -/
theorem dec_tie {bs : List Int} (hb : ∀ y ∈ bs, 0 ≤ y ∧ y < 256) : (decF bs = none ∧ ¬ (rdWhole (rawR bs).rd = true ∧ MayP (rawR bs).rf)) ∨ (∃ f, decF bs = some f ∧ rdWhole (rawR bs).rd = true ∧ MayP (rawR bs).rf ∧ Tie f (rawR bs).rf ∧ Good (rawR bs).rf) := by
  obtain ⟨w1, w2⟩ := raw_whole bs
  obtain ⟨r1, r2⟩ := run_iff (rawD_in hb)
  by_cases h : rdWhole (rawD bs).rd = true ∧ (rawD bs).run.2.1 = true
  · right
    have e := w2 h.1
    rw [e]
    exact ⟨_, by unfold decF; rw [if_pos h], h.1, r1.1 h.2, r2 h.2⟩
  · left
    refine ⟨by unfold decF; rw [if_neg h], fun h2 => h ?_⟩
    rw [w1] at h2
    rw [w2 h2.1] at h2
    exact ⟨h2.1, r1.2 h2.2⟩
end Go.Proofs.YtaacfjdknlglhaaGreatDoor
/- A flight, plain: its bytes are it again. Condition: none. -/
namespace Go.Proofs.YtaacfjdknlglhaaGreatDoor
set_option linter.unusedVariables false
open Go Go.VC

theorem rdNum_code {n : Nat} {most : Int} {rest : List Int} (h : n < 18446744073709551616) (hm : (n : Int) ≤ most) : rdNum most ⟨numB n ++ rest, false⟩ = ((n : Int), ⟨rest, false⟩) := by
  unfold rdNum
  rw [if_neg (by simp)]
  dsimp only
  rw [parse_num h]
  dsimp only
  rw [if_pos ⟨rfl, hm⟩, List.drop_left]
theorem rdNum_nums {x most : Int} {rest : List Int} (h0 : 0 ≤ x) (h1 : x ≤ most) (h2 : x < 18446744073709551616) : rdNum most ⟨numsB [x] ++ rest, false⟩ = (x, ⟨rest, false⟩) := by
  obtain ⟨n, rfl⟩ := Int.eq_ofNat_of_zero_le h0
  have e : numsB [(n : Int)] = numB n := by simp [numsB]
  rw [e]
  exact rdNum_code (by omega) h1
theorem nMany_nums {each : Int} (he : each < 18446744073709551616) {rest : List Int} : ∀ {l : List Int}, (∀ x ∈ l, 0 ≤ x ∧ x ≤ each) → nMany l.length each ⟨numsB l ++ rest, false⟩ = (l, ⟨rest, false⟩)
  | [], _ => rfl
  | x :: l, h => by
    have h1 := h x List.mem_cons_self
    rw [numsB_one, List.append_assoc]
    show ((rdNum each _).1 :: (nMany l.length each (rdNum each _).2).1, (nMany l.length each (rdNum each _).2).2) = _
    rw [rdNum_nums h1.1 h1.2 (by omega)]
    dsimp only
    rw [nMany_nums he fun y hy => h y (List.mem_cons_of_mem _ hy)]
theorem nList_list {most each : Int} (he : each < 18446744073709551616) {rest l : List Int} (hl : (l.length : Int) ≤ most) (hm : most < 18446744073709551616) (h : ∀ x ∈ l, 0 ≤ x ∧ x ≤ each) : nList most each ⟨listB l ++ rest, false⟩ = (l, ⟨rest, false⟩) := by
  unfold nList listB
  rw [List.append_assoc, rdNum_nums (by omega) hl (by omega)]
  exact nMany_nums he h
theorem readH_hold {h : Hold} (hin : HoldIn h) (rest : List Int) : readH ⟨holdB h ++ rest, false⟩ = (h, ⟨rest, false⟩) := by
  have e : holdB h ++ rest = numsB [h.owner] ++ (numsB [h.cls] ++ (numsB [h.many] ++ (listB h.seats ++ rest))) := by
    unfold holdB
    rw [numsB_one h.owner, numsB_one h.cls]
    simp only [List.append_assoc]
  have := hin.o
  have := hin.c
  have := hin.m
  have := hin.n
  unfold readH
  rw [e, rdNum_nums (by omega) (by omega) (by omega)]
  dsimp only
  rw [rdNum_nums (by omega) (by omega) (by omega)]
  dsimp only
  rw [rdNum_nums (by omega) (by omega) (by omega)]
  dsimp only
  rw [nList_list (by omega) (by omega) (by omega) hin.s]
theorem readHs_holds {rest : List Int} : ∀ {L : List Hold}, (∀ h ∈ L, HoldIn h) → readHs L.length ⟨holdsB L ++ rest, false⟩ = (L, ⟨rest, false⟩)
  | [], _ => rfl
  | h :: L, hin => by
    have e : holdsB (h :: L) ++ rest = holdB h ++ (holdsB L ++ rest) := by simp [holdsB]
    rw [e]
    show ((readH _).1 :: (readHs L.length (readH _).2).1, (readHs L.length (readH _).2).2) = _
    rw [readH_hold (hin h List.mem_cons_self)]
    dsimp only
    rw [readHs_holds fun x hx => hin x (List.mem_cons_of_mem _ hx)]

variable {f : PF} {r : RF}
theorem good_in (g : Good r) : ∀ h ∈ r.L, HoldIn h := fun h hh => by
  have h1 := g.each h hh
  have h2 := g.len.2 h hh
  have h3 := (limOk_iff.1 (nestOk_iff.1 g.nest).1).1.2
  have h4 := (layN_bd r.rows r.grps).2
  have := h1.owner
  have := h1.cls
  have := h1.many
  have := h1.few
  exact ⟨by omega, by omega, by omega, fun x hx => by have := h1.seats x hx; omega, by omega⟩
theorem good_lims (g : Good r) : (∀ x ∈ r.lims, 0 ≤ x ∧ x ≤ 10000) ∧ 1 ≤ r.lims.length ∧ r.lims.length ≤ 8 := by
  obtain ⟨h1, h2⟩ := limOk_iff.1 (nestOk_iff.1 g.nest).1
  refine ⟨fun x hx => ?_, h1⟩
  obtain ⟨i, hi, rfl⟩ := List.getElem_of_mem hx
  exact (h2 i hi).1
theorem rawD_enc (g : Good r) : rawD (rencB r) = ⟨r.num, r.rows, r.grps, r.lims, r.L, ⟨[], false⟩⟩ := by
  obtain ⟨l1, l2, l3⟩ := layOk_iff.1 g.lay
  obtain ⟨m1, m2, m3⟩ := good_lims g
  have hlen := g.len.1
  have hnum := g.num
  have e : rencB r = numsB [r.num] ++ (numsB [r.rows] ++ (listB r.grps ++ (listB r.lims ++ (numsB [(r.L.length : Int)] ++ (holdsB r.L ++ []))))) := by
    unfold rencB encB
    rw [numsB_one r.num]
    simp only [List.append_assoc, List.append_nil]
  unfold rawD
  rw [e]
  dsimp only
  rw [rdNum_nums (by omega) (by omega) (by omega)]
  dsimp only
  rw [rdNum_nums (by omega) (by omega) (by omega)]
  dsimp only
  rw [nList_list (by omega) (by omega) (by omega) (fun x hx => by have := l2 x hx; omega)]
  dsimp only
  rw [nList_list (by omega) (by omega) (by omega) m1]
  dsimp only
  rw [rdNum_nums (by omega) (by omega) (by omega)]
  dsimp only
  rw [show ((r.L.length : Int)).toNat = r.L.length from rfl, readHs_holds (good_in g)]

theorem good_may (g : Good r) : MayP r := by
  refine ⟨g.num.1, g.lay, (nestOk_iff.1 g.nest).1, g.l0, fun j hj => ?_, g.nest⟩
  have hh := g.each r.L[j] (List.getElem_mem _)
  refine ⟨hh.owner.1, fun h0 => List.pairwise_iff_getElem.1 g.rise (j - 1) j (by omega) hj (by omega), hh.cls.2, hh.many, hh.few, fun k hk => ⟨fun hm => ?_, (hh.seats _ (List.getElem_mem _)).2, fun h0 => hh.rise (k - 1) k hk (by omega)⟩⟩
  rcases List.mem_append.1 hm with hm | hm
  · obtain ⟨x, hx, hxm⟩ := mem_taken.1 hm
    obtain ⟨i, hi, rfl⟩ := List.getElem_of_mem hx
    rw [List.length_take] at hi
    rw [List.getElem_take] at hxm
    exact List.pairwise_iff_getElem.1 g.apart i j (by omega) hj (by omega) _ hxm (List.getElem_mem _)
  · obtain ⟨i, hi, he⟩ := List.getElem_of_mem hm
    rw [List.length_take] at hi
    rw [List.getElem_take] at he
    have := hh.rise i k hk (by omega)
    omega
theorem good_small (g : Good r) : RSmall r := by
  obtain ⟨l1, l2, l3⟩ := layOk_iff.1 g.lay
  obtain ⟨m1, m2, m3⟩ := good_lims g
  have hlen := g.len.1
  have hnum := g.num
  refine ⟨by omega, by omega, fun x hx => by have := l2 x hx; omega, fun x hx => by have := m1 x hx; omega, by omega, by omega, fun h hh => ?_, by omega⟩
  have hin := good_in g h hh
  have := hin.o
  have := hin.c
  have := hin.m
  have := hin.n
  exact ⟨by omega, by omega, by omega, fun x hx => by have := hin.s x hx; omega, by omega⟩
theorem tie_small (t : Tie f r) (g : Good r) : FSmall f := by
  have s := good_small g
  have b := t.bounds g
  refine ⟨by rw [t.num]; exact s.num, by rw [t.rows]; exact s.rows, by rw [t.grps]; exact s.grps, by rw [t.lims]; exact s.lims, by omega, by omega, by rw [tie_holds t g.rise]; exact s.hs, by omega⟩
theorem tie_enc (t : Tie f r) (g : Good r) : encF f = rencB r := by
  unfold encF rencB
  rw [t.num, t.rows, t.grps, t.lims, tie_holds t g.rise]
theorem renc_bd (g : Good r) : (∀ y ∈ rencB r, 0 ≤ y ∧ y < 256) ∧ (rencB r).length ≤ 6000000 := by
  have s := good_small g
  obtain ⟨l1, l2, l3⟩ := layOk_iff.1 g.lay
  obtain ⟨m1, m2, m3⟩ := good_lims g
  have hlen := g.len.1
  have u2 : small [r.num, r.rows] := by intro y hy; have := s.num; have := s.rows; simp at hy; omega
  have u1 : small [(r.L.length : Int)] := by intro y hy; simp at hy; omega
  constructor
  · intro y hy
    unfold rencB encB at hy
    simp only [List.mem_append] at hy
    rcases hy with (((hy | hy) | hy) | hy) | hy
    · exact numsB_bd (small_u u2) y hy
    · exact listB_bd s.grps (by omega) y hy
    · exact listB_bd s.lims (by omega) y hy
    · exact numsB_bd (small_u u1) y hy
    · exact holdsB_bd s.hs y hy
  · have h1 := numsB_len (small_u u2)
    have h2 := listB_len s.grps (by omega)
    have h3 := listB_len s.lims (by omega)
    have h4 := numsB_len (small_u u1)
    have h5 := holdsB_len s.hs
    simp only [List.length_cons, List.length_nil] at h1 h4
    unfold rencB encB
    simp only [List.length_append]
    omega
/-- Encoded, it is decoded as it was. -/
theorem dec_enc (g : Good r) : ∃ f', decF (rencB r) = some f' ∧ Tie f' r := by
  have e := rawD_enc g
  have hw : rdWhole (rawD (rencB r)).rd = true := by rw [e]; rfl
  have hrf : (rawD (rencB r)).rf = r := by rw [e]; rfl
  obtain ⟨r1, r2⟩ := run_iff (rawD_in (renc_bd g).1)
  rw [hrf] at r1 r2
  have hr := r1.2 (good_may g)
  exact ⟨_, by unfold decF; rw [if_pos ⟨hw, hr⟩], (r2 hr).1⟩
/-- The bytes tell all of it. -/
theorem enc_inj {r' : RF} (g : Good r) (g' : Good r') (h : rencB r = rencB r') : r = r' := by
  have e := rawD_enc g
  rw [h, rawD_enc g'] at e
  cases r; cases r'
  simp only [Raw.mk.injEq] at e
  simp [e]
end Go.Proofs.YtaacfjdknlglhaaGreatDoor
