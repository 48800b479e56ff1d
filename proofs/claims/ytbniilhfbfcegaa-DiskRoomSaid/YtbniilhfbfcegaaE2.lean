/- The reference's disk: change, put, out. Condition: bounds on lengths. -/
import Derived.Test.YtbniilhfbfcegaaE1
namespace Go.Proofs.Ytbniilhfbfcegaa
open Go Go.VC

variable {R : Cx} {Hs Rest : List HP} {w : World}

theorem metN_zero : metN 0 = (-1, true) := rfl
theorem metN_pos {n : Int} (h : 0 < n) : metN n = (n - 1, false) := by
  unfold metN
  rw [if_neg (by simp; omega)]
  simp; omega
theorem metN_no : metN (-1) = (-1, false) := rfl

theorem changeR_spec {r : Nat} {st : DS} {k k2 : ByteArray} (c : Counts st) (hk : k.size ≤ 9000000000000000000) (hk2 : k2.size ≤ 9000000000000000000) (hw : Sat R (RefAt r st :: Hs) w) :
    Gets Try.prog 47 #[.pointer (some ⟨r, 0, none⟩), .string k, .string k2] w fun v w' => v = .int .i64 (chg st (nameOk k && nameOk k2)).2 ∧ Sat R (RefAt r (chg st (nameOk k && nameOk k2)).1 :: Hs) w' := by
  apply call47
  refine (isName_spec k hk hw).use ?_
  rintro _ w ⟨rfl, hw⟩
  refine ⟨_, rfl, (isName_spec k2 hk2 hw).use ?_⟩
  rintro _ w ⟨rfl, hw⟩
  refine ⟨_, rfl, fun w => (nameOk k && nameOk k2) = true ∧ Sat R (RefAt r st :: Hs) w, ?_, ?_⟩
  · have no : (nameOk k && nameOk k2) = false → Value.int .i64 1 = .int .i64 (chg st (nameOk k && nameOk k2)).2 ∧ Sat R (RefAt r (chg st (nameOk k && nameOk k2)).1 :: Hs) w := fun h => by rw [h]; exact ⟨rfl, hw⟩
    (first | with_reducible refine Br.d (fun h => ?_) (fun h => ?_) | with_reducible refine Br.nd (fun h => ?_) (fun h => ?_) | with_reducible refine Br.e (fun h => ?_) (fun h => ?_) | with_reducible refine Br.ne (fun h => ?_) (fun h => ?_) | with_reducible refine Br.nne (fun h => ?_) (fun h => ?_) | with_reducible refine Br.se (fun h => ?_) (fun h => ?_) | with_reducible refine Br.sne (fun h => ?_) (fun h => ?_) | with_reducible refine Br.nb (fun h => ?_) (fun h => ?_) | with_reducible refine Br.mk (fun h => ?_) (fun h => ?_) | refine Br.d (fun h => ?_) (fun h => ?_) | refine Br.nd (fun h => ?_) (fun h => ?_) | refine Br.e (fun h => ?_) (fun h => ?_) | refine Br.ne (fun h => ?_) (fun h => ?_) | refine Br.nne (fun h => ?_) (fun h => ?_) | refine Br.se (fun h => ?_) (fun h => ?_) | refine Br.mk (fun h => ?_) (fun h => ?_))
    · exact no (by rw [h]; rfl)
    · (first | with_reducible refine Br.d (fun h => ?_) (fun h => ?_) | with_reducible refine Br.nd (fun h => ?_) (fun h => ?_) | with_reducible refine Br.e (fun h => ?_) (fun h => ?_) | with_reducible refine Br.ne (fun h => ?_) (fun h => ?_) | with_reducible refine Br.nne (fun h => ?_) (fun h => ?_) | with_reducible refine Br.se (fun h => ?_) (fun h => ?_) | with_reducible refine Br.sne (fun h => ?_) (fun h => ?_) | with_reducible refine Br.nb (fun h => ?_) (fun h => ?_) | with_reducible refine Br.mk (fun h => ?_) (fun h => ?_) | refine Br.d (fun h => ?_) (fun h => ?_) | refine Br.nd (fun h => ?_) (fun h => ?_) | refine Br.e (fun h => ?_) (fun h => ?_) | refine Br.ne (fun h => ?_) (fun h => ?_) | refine Br.nne (fun h => ?_) (fun h => ?_) | refine Br.se (fun h => ?_) (fun h => ?_) | refine Br.mk (fun h => ?_) (fun h => ?_))
      · rename_i h2; exact no (by rw [h, h2]; rfl)
      · rename_i h2; exact ⟨by rw [h, h2]; rfl, hw⟩
  rintro z w ⟨hok, hw⟩
  rw [hok]
  obtain ⟨s, E, hE, hw⟩ := Sat.ref.1 hw
  have a0 := c.a0; have a1 := c.a1; have f0 := c.f0; have f1 := c.f1
  repeat (first | refine NilP.mk rfl ?_ | refine ⟨_, At.own selfS (by exact ⟨rfl, trivial⟩), ?_⟩ | refine ⟨_, At.own (eqS hw) (by exact ⟨rfl, trivial⟩), ?_⟩ | refine ⟨_, (by rw [add_off]; exact At.own selfS (by exact ⟨rfl, trivial⟩)), ?_⟩ | refine ⟨_, (by rw [add_off]; exact At.own (eqS hw) (by exact ⟨rfl, trivial⟩)), ?_⟩)
  (first | with_reducible refine Br.d (fun h => ?_) (fun h => ?_) | with_reducible refine Br.nd (fun h => ?_) (fun h => ?_) | with_reducible refine Br.e (fun h => ?_) (fun h => ?_) | with_reducible refine Br.ne (fun h => ?_) (fun h => ?_) | with_reducible refine Br.nne (fun h => ?_) (fun h => ?_) | with_reducible refine Br.se (fun h => ?_) (fun h => ?_) | with_reducible refine Br.sne (fun h => ?_) (fun h => ?_) | with_reducible refine Br.nb (fun h => ?_) (fun h => ?_) | with_reducible refine Br.mk (fun h => ?_) (fun h => ?_) | refine Br.d (fun h => ?_) (fun h => ?_) | refine Br.nd (fun h => ?_) (fun h => ?_) | refine Br.e (fun h => ?_) (fun h => ?_) | refine Br.ne (fun h => ?_) (fun h => ?_) | refine Br.nne (fun h => ?_) (fun h => ?_) | refine Br.se (fun h => ?_) (fun h => ?_) | refine Br.mk (fun h => ?_) (fun h => ?_))
  · have e : chg st true = (st, 5) := by simp [chg, h]
    rw [e]; exact ⟨rfl, RO.shut hE hw⟩
  have hoff := h
  repeat (first | refine NilP.mk rfl ?_ | refine ⟨_, At.own selfS (by exact ⟨rfl, trivial⟩), ?_⟩ | refine ⟨_, At.own (eqS hw) (by exact ⟨rfl, trivial⟩), ?_⟩ | refine ⟨_, (by rw [add_off]; exact At.own selfS (by exact ⟨rfl, trivial⟩)), ?_⟩ | refine ⟨_, (by rw [add_off]; exact At.own (eqS hw) (by exact ⟨rfl, trivial⟩)), ?_⟩)
  (first | with_reducible refine Br.d (fun h => ?_) (fun h => ?_) | with_reducible refine Br.nd (fun h => ?_) (fun h => ?_) | with_reducible refine Br.e (fun h => ?_) (fun h => ?_) | with_reducible refine Br.ne (fun h => ?_) (fun h => ?_) | with_reducible refine Br.nne (fun h => ?_) (fun h => ?_) | with_reducible refine Br.se (fun h => ?_) (fun h => ?_) | with_reducible refine Br.sne (fun h => ?_) (fun h => ?_) | with_reducible refine Br.nb (fun h => ?_) (fun h => ?_) | with_reducible refine Br.mk (fun h => ?_) (fun h => ?_) | refine Br.d (fun h => ?_) (fun h => ?_) | refine Br.nd (fun h => ?_) (fun h => ?_) | refine Br.e (fun h => ?_) (fun h => ?_) | refine Br.ne (fun h => ?_) (fun h => ?_) | refine Br.nne (fun h => ?_) (fun h => ?_) | refine Br.se (fun h => ?_) (fun h => ?_) | refine Br.mk (fun h => ?_) (fun h => ?_))
  · repeat (first | refine NilP.mk rfl ?_ | refine ⟨_, At.own selfS (by exact ⟨rfl, trivial⟩), ?_⟩ | refine ⟨_, At.own (eqS hw) (by exact ⟨rfl, trivial⟩), ?_⟩ | refine ⟨_, (by rw [add_off]; exact At.own selfS (by exact ⟨rfl, trivial⟩)), ?_⟩ | refine ⟨_, (by rw [add_off]; exact At.own (eqS hw) (by exact ⟨rfl, trivial⟩)), ?_⟩)
    refine store_rule hw (by kernel_rfl) rfl (by simp [Value.cells, putL_len]) fun w hw => ?_
    repeat (first | refine NilP.mk rfl ?_ | refine ⟨_, At.own selfS (by exact ⟨rfl, trivial⟩), ?_⟩ | refine ⟨_, At.own (eqS hw) (by exact ⟨rfl, trivial⟩), ?_⟩ | refine ⟨_, (by rw [add_off]; exact At.own selfS (by exact ⟨rfl, trivial⟩)), ?_⟩ | refine ⟨_, (by rw [add_off]; exact At.own (eqS hw) (by exact ⟨rfl, trivial⟩)), ?_⟩)
    refine store_rule hw (by kernel_rfl) rfl (by simp [Value.cells, putL_len]) fun w hw => ?_
    have e : chg st true = ({ st with arm := -1, off := true }, 5) := by simp [chg, hoff, h, metN_zero]
    rw [e]; exact ⟨rfl, RO.shut hE hw⟩
  have harm : ¬ st.arm = 0 := h
  have hm2 : (metN st.arm).2 = false := by
    by_cases hp : 0 < st.arm
    · rw [metN_pos hp]
    · rw [show st.arm = -1 by omega]; rfl
  refine ⟨fun w => Sat R (RO r s E { st with arm := (metN st.arm).1 } Hs) w, ?_, ?_⟩
  · repeat (first | refine NilP.mk rfl ?_ | refine ⟨_, At.own selfS (by exact ⟨rfl, trivial⟩), ?_⟩ | refine ⟨_, At.own (eqS hw) (by exact ⟨rfl, trivial⟩), ?_⟩ | refine ⟨_, (by rw [add_off]; exact At.own selfS (by exact ⟨rfl, trivial⟩)), ?_⟩ | refine ⟨_, (by rw [add_off]; exact At.own (eqS hw) (by exact ⟨rfl, trivial⟩)), ?_⟩)
    (first | with_reducible refine Br.d (fun h => ?_) (fun h => ?_) | with_reducible refine Br.nd (fun h => ?_) (fun h => ?_) | with_reducible refine Br.e (fun h => ?_) (fun h => ?_) | with_reducible refine Br.ne (fun h => ?_) (fun h => ?_) | with_reducible refine Br.nne (fun h => ?_) (fun h => ?_) | with_reducible refine Br.se (fun h => ?_) (fun h => ?_) | with_reducible refine Br.sne (fun h => ?_) (fun h => ?_) | with_reducible refine Br.nb (fun h => ?_) (fun h => ?_) | with_reducible refine Br.mk (fun h => ?_) (fun h => ?_) | refine Br.d (fun h => ?_) (fun h => ?_) | refine Br.nd (fun h => ?_) (fun h => ?_) | refine Br.e (fun h => ?_) (fun h => ?_) | refine Br.ne (fun h => ?_) (fun h => ?_) | refine Br.nne (fun h => ?_) (fun h => ?_) | refine Br.se (fun h => ?_) (fun h => ?_) | refine Br.mk (fun h => ?_) (fun h => ?_))
    · have h : 0 < st.arm := h
      repeat (first | refine NilP.mk rfl ?_ | refine ⟨_, At.own selfS (by exact ⟨rfl, trivial⟩), ?_⟩ | refine ⟨_, At.own (eqS hw) (by exact ⟨rfl, trivial⟩), ?_⟩ | refine ⟨_, (by rw [add_off]; exact At.own selfS (by exact ⟨rfl, trivial⟩)), ?_⟩ | refine ⟨_, (by rw [add_off]; exact At.own (eqS hw) (by exact ⟨rfl, trivial⟩)), ?_⟩)
      rw [wrap64 (by omega) (by omega)]
      refine store_rule hw (by kernel_rfl) rfl (by simp [Value.cells, putL_len]) fun w hw => ?_
      rw [metN_pos h]; exact hw
    · have h : ¬ 0 < st.arm := h
      have : st.arm = -1 := by omega
      rw [this]
      have e : ({ st with arm := (metN (-1)).1 } : DS) = st := by rw [show (metN (-1)).1 = -1 from rfl, ← this]
      rw [e]; exact hw
  intro z w hw
  repeat (first | refine NilP.mk rfl ?_ | refine ⟨_, At.own selfS (by exact ⟨rfl, trivial⟩), ?_⟩ | refine ⟨_, At.own (eqS hw) (by exact ⟨rfl, trivial⟩), ?_⟩ | refine ⟨_, (by rw [add_off]; exact At.own selfS (by exact ⟨rfl, trivial⟩)), ?_⟩ | refine ⟨_, (by rw [add_off]; exact At.own (eqS hw) (by exact ⟨rfl, trivial⟩)), ?_⟩)
  (first | with_reducible refine Br.d (fun h => ?_) (fun h => ?_) | with_reducible refine Br.nd (fun h => ?_) (fun h => ?_) | with_reducible refine Br.e (fun h => ?_) (fun h => ?_) | with_reducible refine Br.ne (fun h => ?_) (fun h => ?_) | with_reducible refine Br.nne (fun h => ?_) (fun h => ?_) | with_reducible refine Br.se (fun h => ?_) (fun h => ?_) | with_reducible refine Br.sne (fun h => ?_) (fun h => ?_) | with_reducible refine Br.nb (fun h => ?_) (fun h => ?_) | with_reducible refine Br.mk (fun h => ?_) (fun h => ?_) | refine Br.d (fun h => ?_) (fun h => ?_) | refine Br.nd (fun h => ?_) (fun h => ?_) | refine Br.e (fun h => ?_) (fun h => ?_) | refine Br.ne (fun h => ?_) (fun h => ?_) | refine Br.nne (fun h => ?_) (fun h => ?_) | refine Br.se (fun h => ?_) (fun h => ?_) | refine Br.mk (fun h => ?_) (fun h => ?_))
  · repeat (first | refine NilP.mk rfl ?_ | refine ⟨_, At.own selfS (by exact ⟨rfl, trivial⟩), ?_⟩ | refine ⟨_, At.own (eqS hw) (by exact ⟨rfl, trivial⟩), ?_⟩ | refine ⟨_, (by rw [add_off]; exact At.own selfS (by exact ⟨rfl, trivial⟩)), ?_⟩ | refine ⟨_, (by rw [add_off]; exact At.own (eqS hw) (by exact ⟨rfl, trivial⟩)), ?_⟩)
    refine store_rule hw (by kernel_rfl) rfl (by simp [Value.cells, putL_len]) fun w hw => ?_
    have h : st.fail = 0 := h
    have e : chg st true = ({ st with arm := (metN st.arm).1, fail := -1 }, 4) := by simp [chg, hoff, hm2, h, metN_zero]
    rw [e]; exact ⟨rfl, RO.shut hE hw⟩
  have hfail : ¬ st.fail = 0 := h
  repeat (first | refine NilP.mk rfl ?_ | refine ⟨_, At.own selfS (by exact ⟨rfl, trivial⟩), ?_⟩ | refine ⟨_, At.own (eqS hw) (by exact ⟨rfl, trivial⟩), ?_⟩ | refine ⟨_, (by rw [add_off]; exact At.own selfS (by exact ⟨rfl, trivial⟩)), ?_⟩ | refine ⟨_, (by rw [add_off]; exact At.own (eqS hw) (by exact ⟨rfl, trivial⟩)), ?_⟩)
  (first | with_reducible refine Br.d (fun h => ?_) (fun h => ?_) | with_reducible refine Br.nd (fun h => ?_) (fun h => ?_) | with_reducible refine Br.e (fun h => ?_) (fun h => ?_) | with_reducible refine Br.ne (fun h => ?_) (fun h => ?_) | with_reducible refine Br.nne (fun h => ?_) (fun h => ?_) | with_reducible refine Br.se (fun h => ?_) (fun h => ?_) | with_reducible refine Br.sne (fun h => ?_) (fun h => ?_) | with_reducible refine Br.nb (fun h => ?_) (fun h => ?_) | with_reducible refine Br.mk (fun h => ?_) (fun h => ?_) | refine Br.d (fun h => ?_) (fun h => ?_) | refine Br.nd (fun h => ?_) (fun h => ?_) | refine Br.e (fun h => ?_) (fun h => ?_) | refine Br.ne (fun h => ?_) (fun h => ?_) | refine Br.nne (fun h => ?_) (fun h => ?_) | refine Br.se (fun h => ?_) (fun h => ?_) | refine Br.mk (fun h => ?_) (fun h => ?_))
  · have h : 0 < st.fail := h
    repeat (first | refine NilP.mk rfl ?_ | refine ⟨_, At.own selfS (by exact ⟨rfl, trivial⟩), ?_⟩ | refine ⟨_, At.own (eqS hw) (by exact ⟨rfl, trivial⟩), ?_⟩ | refine ⟨_, (by rw [add_off]; exact At.own selfS (by exact ⟨rfl, trivial⟩)), ?_⟩ | refine ⟨_, (by rw [add_off]; exact At.own (eqS hw) (by exact ⟨rfl, trivial⟩)), ?_⟩)
    rw [wrap64 (x := st.fail - 1) (by omega) (by omega)]
    refine store_rule hw (by kernel_rfl) rfl (by simp [Value.cells, putL_len]) fun w hw => ?_
    have e : chg st true = ({ st with arm := (metN st.arm).1, fail := st.fail - 1 }, 0) := by simp [chg, hoff, hm2, metN_pos h]
    rw [e]; exact ⟨rfl, RO.shut hE hw⟩
  · have h : ¬ 0 < st.fail := h
    have hf : st.fail = -1 := by omega
    have e : chg st true = ({ st with arm := (metN st.arm).1, fail := st.fail }, 0) := by simp [chg, hoff, hm2, hf, metN_no]
    rw [e]; exact ⟨rfl, RO.shut hE hw⟩

/-! ### put, out -/
def ltB (a b : ByteArray) : Bool := Op.bytesLess a.toList b.toList
/-- How many stand ahead. -/
def atM {β : Type} (k : ByteArray) : List (ByteArray × β) → Nat
  | [] => 0
  | e :: l => if ltB e.1 k then atM k l + 1 else 0
def insM {β : Type} (x : ByteArray × β) (l : List (ByteArray × β)) : List (ByteArray × β) := l.take (atM x.1 l) ++ x :: l.drop (atM x.1 l)
theorem atM_le {β : Type} (k : ByteArray) : ∀ l : List (ByteArray × β), atM k l ≤ l.length
  | [] => Nat.le_refl _
  | e :: l => by rw [atM]; split; have := atM_le k l; simp; omega; simp
theorem insM_perm {β : Type} (x : ByteArray × β) (l : List (ByteArray × β)) : (insM x l).Perm (x :: l) := by
  unfold insM
  refine List.perm_middle.trans ?_
  rw [List.take_append_drop]

theorem one_rowR (e : RE) : oneAll (rowR e) = true := rfl
theorem one_rows (E : List RE) : oneAll (E.map rowR).flatten = true := by
  unfold oneAll
  rw [List.all_eq_true]
  intro v hv
  obtain ⟨x, hx, hv⟩ := List.mem_flatten.1 hv
  obtain ⟨e, _, rfl⟩ := List.mem_map.1 hx
  exact List.all_eq_true.1 (one_rowR e) v hv

theorem elF : ElN Try.prog 54 54 78 3 48 := ⟨Try.underlying54, ⟨_, Try.underlying54⟩, by kernel_rfl⟩

theorem bufs_mid {a b : List RE} {e : RE} (h : Sat R (Own e.2.1 5 (b8 e.2.2.b) :: BufsAt (a ++ b) :: Hs) w) : Sat R (BufsAt (a ++ e :: b) :: Hs) w := Bufs.split.2 h

theorem putR_spec {r : Nat} {s sb : Sl} {E : List RE} {st : DS} {k : ByteArray} {f : Fl} (hE : erR E = st.fs) (hl : E.length ≤ 1000000) (hw : Sat R (RO r s E st (Own sb 5 (b8 f.b) :: Hs)) w) :
    Gets Try.prog 49 #[.pointer (some ⟨r, 0, none⟩), .agg #[.string k, .slice sb.a sb.len sb.cap, .int .i64 f.sure]] w fun v w' => v = .tuple #[] ∧ Sat R (RefAt r { st with fs := insM (k, f) st.fs } :: Hs) w' := by
  apply call49
  have hsl : s.len = E.length := by have := OwnN.len (hw.take (OwnN 3 s 78 (E.map rowR))); rwa [List.length_map] at this
  have hcap : s.len ≤ s.cap := OwnN.cap (by decide) (hw.take (OwnN 3 s 78 (E.map rowR)))
  have hfl : st.fs.length = E.length := by rw [← hE, erR_len]
  have hat := atM_le k st.fs
  refine new_rule hw fun bf w hw => ?_
  let G : List HP := pts bf (.cells [.string k, .slice sb.a sb.len sb.cap, .int .i64 f.sure].toArray 78 (0, 0)) :: RO r s E st (Own sb 5 (b8 f.b) :: Hs)
  have hw : Sat R G w := hw
  refine ⟨fun at_ w => at_ = (atM k st.fs : Nat) ∧ Sat R G w, ?_, ?_⟩
  · refine ⟨fun i w => ∃ j : Nat, i = j ∧ j ≤ E.length ∧ atM k st.fs = j + atM k (st.fs.drop j) ∧ Sat R G w, fun i _ => E.length - i.toNat, ⟨0, rfl, Nat.zero_le _, by simp, hw⟩, ?_⟩
    rintro z _ w ⟨j, rfl, hj, hn, hw⟩
    refine drw_rule hw fun w hw => ?_
    repeat (first | refine NilP.mk rfl ?_ | refine ⟨_, At.own selfS (by exact ⟨rfl, trivial⟩), ?_⟩ | refine ⟨_, At.own (eqS hw) (by exact ⟨rfl, trivial⟩), ?_⟩ | refine ⟨_, (by rw [add_off]; exact At.own selfS (by exact ⟨rfl, trivial⟩)), ?_⟩ | refine ⟨_, (by rw [add_off]; exact At.own (eqS hw) (by exact ⟨rfl, trivial⟩)), ?_⟩)
    (first | with_reducible refine Br.d (fun h => ?_) (fun h => ?_) | with_reducible refine Br.nd (fun h => ?_) (fun h => ?_) | with_reducible refine Br.e (fun h => ?_) (fun h => ?_) | with_reducible refine Br.ne (fun h => ?_) (fun h => ?_) | with_reducible refine Br.nne (fun h => ?_) (fun h => ?_) | with_reducible refine Br.se (fun h => ?_) (fun h => ?_) | with_reducible refine Br.sne (fun h => ?_) (fun h => ?_) | with_reducible refine Br.nb (fun h => ?_) (fun h => ?_) | with_reducible refine Br.mk (fun h => ?_) (fun h => ?_) | refine Br.d (fun h => ?_) (fun h => ?_) | refine Br.nd (fun h => ?_) (fun h => ?_) | refine Br.e (fun h => ?_) (fun h => ?_) | refine Br.ne (fun h => ?_) (fun h => ?_) | refine Br.nne (fun h => ?_) (fun h => ?_) | refine Br.se (fun h => ?_) (fun h => ?_) | refine Br.mk (fun h => ?_) (fun h => ?_))
    · have hj' : j < E.length := by omega
      repeat (first | refine NilP.mk rfl ?_ | refine ⟨_, At.own selfS (by exact ⟨rfl, trivial⟩), ?_⟩ | refine ⟨_, At.own (eqS hw) (by exact ⟨rfl, trivial⟩), ?_⟩ | refine ⟨_, (by rw [add_off]; exact At.own selfS (by exact ⟨rfl, trivial⟩)), ?_⟩ | refine ⟨_, (by rw [add_off]; exact At.own (eqS hw) (by exact ⟨rfl, trivial⟩)), ?_⟩)
      have hr : ReadsN 3 s (E.map rowR) (Sat R G) := OwnN.readsM (rows := E.map rowR) (T := 78) hw selfS
      refine hr.rngM hj' fun a ha el => ⟨_, el.zz (by exact ⟨rfl, trivial⟩), ⟨_, At.own selfS (by exact ⟨rfl, trivial⟩), ?_⟩⟩
      have hge : st.fs[j]'(by omega) = (E[j].1, E[j].2.2) := by simp [← hE, erR]
      rw [drop_get (by omega), hge, atM] at hn
      refine Br.mk (fun h => ?_) (fun h => ?_)
      · rw [if_pos (show ltB _ k = true from h)] at hn
        rw [wrap64 (by omega) (by omega)]
        exact ⟨⟨j + 1, by omega, by omega, by omega, hw⟩, by dsimp only; omega⟩
      · rw [if_neg (by rw [show ltB _ k = false from h]; simp)] at hn
        exact ⟨by omega, hw⟩
    · have : j = E.length := by omega
      subst this
      rw [List.drop_eq_nil_of_le (by omega)] at hn
      exact ⟨by rw [hn]; simp [atM], hw⟩
  rintro z _ w ⟨rfl, hw⟩
  generalize hAt : atM k st.fs = at_ at hat
  refine new_rule hw fun b1 w hw => ?_
  have hw : Sat R (OwnN 3 s 78 (E.map rowR) :: pts b1 (.cells #[] 78 (0, 0)) :: pts bf (.cells [.string k, .slice sb.a sb.len sb.cap, .int .i64 f.sure].toArray 78 (0, 0)) :: pts r (rCells st s) :: BufsAt E :: Own sb 5 (b8 f.b) :: Hs) w := hw.take (OwnN 3 s 78 (E.map rowR))
  obtain ⟨R', hro, ⟨xR, hxR⟩, hw, back⟩ := OwnN.lend hw
  repeat (first | refine NilP.mk rfl ?_ | refine ⟨_, At.own selfS (by exact ⟨rfl, trivial⟩), ?_⟩ | refine ⟨_, At.own (eqS hw) (by exact ⟨rfl, trivial⟩), ?_⟩ | refine ⟨_, (by rw [add_off]; exact At.own selfS (by exact ⟨rfl, trivial⟩)), ?_⟩ | refine ⟨_, (by rw [add_off]; exact At.own (eqS hw) (by exact ⟨rfl, trivial⟩)), ?_⟩)
  refine ⟨by omega, by omega, ?_⟩
  have hr1 : RoN 3 R' ⟨s.a, at_, s.cap⟩ ((E.map rowR).take at_) := hro.take (by rw [List.length_map]; omega) s.cap
  have h1 : ∀ l : List RE, Wid 3 (l.map rowR) := fun l x hx => by obtain ⟨e, _, rfl⟩ := List.mem_map.1 hx; rfl
  rw [← List.map_take] at hr1
  refine appendN0_rule elF hw (srcRoN elF.hk hw hr1 (one_rows _)) (h1 _) (by simp; omega) (by simp; omega) fun s2 w hw => ?_
  repeat (first | refine NilP.mk rfl ?_ | refine ⟨_, At.own selfS (by exact ⟨rfl, trivial⟩), ?_⟩ | refine ⟨_, At.own (eqS hw) (by exact ⟨rfl, trivial⟩), ?_⟩ | refine ⟨_, (by rw [add_off]; exact At.own selfS (by exact ⟨rfl, trivial⟩)), ?_⟩ | refine ⟨_, (by rw [add_off]; exact At.own (eqS hw) (by exact ⟨rfl, trivial⟩)), ?_⟩)
  refine ⟨k, sb, f.sure, At.own (eqS hw) (by exact ⟨rfl, rfl, rfl, trivial⟩), ?_⟩
  refine pushN_rule elF hw rfl rfl (by simp; omega) (by simp; omega) fun s3 w hw => ?_
  repeat (first | refine NilP.mk rfl ?_ | refine ⟨_, At.own selfS (by exact ⟨rfl, trivial⟩), ?_⟩ | refine ⟨_, At.own (eqS hw) (by exact ⟨rfl, trivial⟩), ?_⟩ | refine ⟨_, (by rw [add_off]; exact At.own selfS (by exact ⟨rfl, trivial⟩)), ?_⟩ | refine ⟨_, (by rw [add_off]; exact At.own (eqS hw) (by exact ⟨rfl, trivial⟩)), ?_⟩)
  refine ⟨by omega, by omega, ?_⟩
  have hr2 : RoN 3 R' ⟨cutA s.a at_ s.cap 3, s.len - at_, s.cap - at_⟩ (((E.map rowR).take s.len).drop at_) := hro.sub (by omega) (by rw [List.length_map]; omega) (fun h => by omega)
  rw [← List.map_take, ← List.map_drop, List.take_of_length_le (by omega)] at hr2
  refine appendN_rule elF hw (srcRoN elF.hk hw hr2 (one_rows _)) (h1 _) (by simp; omega) (by simp; omega) fun s4 w hw => ?_
  have hw := hw.take (pts r (rCells st s))
  repeat (first | refine NilP.mk rfl ?_ | refine ⟨_, At.own selfS (by exact ⟨rfl, trivial⟩), ?_⟩ | refine ⟨_, At.own (eqS hw) (by exact ⟨rfl, trivial⟩), ?_⟩ | refine ⟨_, (by rw [add_off]; exact At.own selfS (by exact ⟨rfl, trivial⟩)), ?_⟩ | refine ⟨_, (by rw [add_off]; exact At.own (eqS hw) (by exact ⟨rfl, trivial⟩)), ?_⟩)
  refine store_rule hw (by kernel_rfl) rfl (by simp [Value.cells, putL_len]) fun w hw => ?_
  refine ⟨rfl, ?_⟩
  have hw := back hw
  have hw := hw.drop
  have eR : (E.take at_).map rowR ++ [[.string k, .slice sb.a sb.len sb.cap, .int .i64 f.sure]] ++ (E.drop at_).map rowR = (E.take at_ ++ (k, sb, f) :: E.drop at_).map rowR := by simp [rowR]
  have hw : Sat R (pts r (rCells { st with fs := insM (k, f) st.fs } s4) :: OwnN 3 s4 78 ((E.take at_ ++ (k, sb, f) :: E.drop at_).map rowR) :: pts bf (.cells [.string k, .slice sb.a sb.len sb.cap, .int .i64 f.sure].toArray 78 (0, 0)) :: BufsAt E :: Own sb 5 (b8 f.b) :: Hs) w := by
    rw [← eR]; exact hw
  refine RO.shut (s := s4) (E := E.take at_ ++ (k, sb, f) :: E.drop at_) ?_ ?_
  · rw [erR_app, erR_cons]
    show _ = st.fs.take (atM k st.fs) ++ (k, f) :: st.fs.drop (atM k st.fs)
    rw [hAt, ← hE]
    simp [erR, List.map_take, List.map_drop]
  · refine hw.cons fun _ h => h.cons fun _ h => ?_
    have h := h.drop.swap
    rw [show BufsAt E = BufsAt (E.take at_ ++ E.drop at_) by rw [List.take_append_drop]] at h
    exact Bufs.split.2 h

theorem outR_spec {r : Nat} {s : Sl} {a b : List RE} {e : RE} {st : DS} (hE : erR (a ++ e :: b) = st.fs) (hl : (a ++ e :: b).length ≤ 1000000) (hw : Sat R (RO r s (a ++ e :: b) st Hs) w) :
    Gets Try.prog 52 #[.pointer (some ⟨r, 0, none⟩), .int .i64 (a.length : Nat)] w fun v w' => v = .tuple #[] ∧ Sat R (Own e.2.1 5 (b8 e.2.2.b) :: RefAt r { st with fs := erR (a ++ b) } :: Hs) w' := by
  apply call52
  have hsl : s.len = (a ++ e :: b).length := by have := OwnN.len (hw.take (OwnN 3 s 78 ((a ++ e :: b).map rowR))); rwa [List.length_map] at this
  have hcap : s.len ≤ s.cap := OwnN.cap (by decide) (hw.take (OwnN 3 s 78 ((a ++ e :: b).map rowR)))
  have hll : (a ++ e :: b).length = a.length + b.length + 1 := by simp; omega
  rw [hll] at hl hsl
  refine new_rule hw fun b1 w hw => ?_
  have hw := hw.take (OwnN 3 s 78 ((a ++ e :: b).map rowR))
  obtain ⟨R', hro, ⟨xR, hxR⟩, hw, back⟩ := OwnN.lend hw
  repeat (first | refine NilP.mk rfl ?_ | refine ⟨_, At.own selfS (by exact ⟨rfl, trivial⟩), ?_⟩ | refine ⟨_, At.own (eqS hw) (by exact ⟨rfl, trivial⟩), ?_⟩ | refine ⟨_, (by rw [add_off]; exact At.own selfS (by exact ⟨rfl, trivial⟩)), ?_⟩ | refine ⟨_, (by rw [add_off]; exact At.own (eqS hw) (by exact ⟨rfl, trivial⟩)), ?_⟩)
  refine ⟨by omega, by omega, ?_⟩
  have h1 : ∀ l : List RE, Wid 3 (l.map rowR) := fun l x hx => by obtain ⟨e, _, rfl⟩ := List.mem_map.1 hx; rfl
  have hr1 : RoN 3 R' ⟨s.a, a.length, s.cap⟩ (((a ++ e :: b).map rowR).take a.length) := hro.take (by rw [List.length_map, hll]; omega) s.cap
  rw [← List.map_take, List.take_left' rfl] at hr1
  refine appendN0_rule elF hw (srcRoN elF.hk hw hr1 (one_rows _)) (h1 _) (by simp; omega) (by simp; omega) fun s2 w hw => ?_
  repeat (first | refine NilP.mk rfl ?_ | refine ⟨_, At.own selfS (by exact ⟨rfl, trivial⟩), ?_⟩ | refine ⟨_, At.own (eqS hw) (by exact ⟨rfl, trivial⟩), ?_⟩ | refine ⟨_, (by rw [add_off]; exact At.own selfS (by exact ⟨rfl, trivial⟩)), ?_⟩ | refine ⟨_, (by rw [add_off]; exact At.own (eqS hw) (by exact ⟨rfl, trivial⟩)), ?_⟩)
  rw [wrap64 (by omega) (by omega)]
  refine ⟨by omega, by omega, ?_⟩
  have hr2 : RoN 3 R' ⟨cutA s.a (a.length + 1) s.cap 3, s.len - (a.length + 1), s.cap - (a.length + 1)⟩ ((((a ++ e :: b).map rowR).take s.len).drop (a.length + 1)) := hro.sub (by omega) (by rw [List.length_map, hll]; omega) (fun h => by omega)
  rw [← List.map_take, ← List.map_drop, List.take_of_length_le (by rw [hll]; omega)] at hr2
  have ed : (a ++ e :: b).drop (a.length + 1) = b := by rw [← List.drop_drop, List.drop_left' rfl]; rfl
  rw [ed] at hr2
  refine appendN_rule elF hw (srcRoN elF.hk hw hr2 (one_rows _)) (h1 _) (by simp; omega) (by simp; omega) fun s4 w hw => ?_
  have hw := hw.take (pts r (rCells st s))
  repeat (first | refine NilP.mk rfl ?_ | refine ⟨_, At.own selfS (by exact ⟨rfl, trivial⟩), ?_⟩ | refine ⟨_, At.own (eqS hw) (by exact ⟨rfl, trivial⟩), ?_⟩ | refine ⟨_, (by rw [add_off]; exact At.own selfS (by exact ⟨rfl, trivial⟩)), ?_⟩ | refine ⟨_, (by rw [add_off]; exact At.own (eqS hw) (by exact ⟨rfl, trivial⟩)), ?_⟩)
  refine store_rule hw (by kernel_rfl) rfl (by simp [Value.cells, putL_len]) fun w hw => ?_
  refine ⟨rfl, ?_⟩
  have hw := (back hw).drop
  rw [← List.map_append] at hw
  have hw : Sat R (pts r (rCells { st with fs := erR (a ++ b) } s4) :: OwnN 3 s4 78 ((a ++ b).map rowR) :: BufsAt (a ++ e :: b) :: Hs) w := hw
  have hw := Bufs.split.1 (hw.take (BufsAt (a ++ e :: b)))
  exact hw.cons fun _ h => RO.shut (s := s4) (E := a ++ b) rfl ((h.take (pts r (rCells { st with fs := erR (a ++ b) } s4))).cons fun _ h => h.swap)

end Go.Proofs.Ytbniilhfbfcegaa
