/- The disk and its reference are alike: the plain law. No program. Condition: none. -/
import Derived.Test.YtbniilhfbfcegaaE4
import Derived.Sort.Walk0
namespace Go.Proofs.Ytbniilhfbfcegaa
open Go Go.VC

def Srt (fs : Fs) : Prop := fs.Pairwise fun x y => x.1.data.toList < y.1.data.toList

theorem ltB_eq (a b : ByteArray) : ltB a b = decide (a.data.toList < b.data.toList) := by
  unfold ltB; rw [ByteArray.toList_eq, ByteArray.toList_eq, Proofs.bytesLess_eq]

/-! ### Of lists that are the same but for the order -/
theorem uni_perm {a b : Fs} (h : a.Perm b) (u : Uni a) : Uni b := (h.map _).nodup_iff.1 u
theorem getM_perm {a b : Fs} (h : a.Perm b) (u : Uni a) (k : ByteArray) : getM k a = getM k b := by
  have key : ∀ {l : Fs} {f : Fl}, Uni l → (getM k l = some f ↔ (k, f) ∈ l) := fun {l f} u => by
    constructor
    · intro hg
      obtain ⟨a, b, rfl, _⟩ := getM_split hg
      simp
    · intro hm
      obtain ⟨a, b, rfl⟩ := List.append_of_mem hm
      refine getM_app (getM_of_notin ?_) (ba_rfl k)
      unfold Uni at u
      rw [List.map_append, List.nodup_append] at u
      intro hk
      exact u.2.2 k hk k (by simp) rfl
  cases hb : getM k b with
  | some f => exact (key u).2 (h.mem_iff.2 ((key (uni_perm h u)).1 hb))
  | none =>
    cases ha : getM k a with
    | none => rfl
    | some f => rw [(key (uni_perm h u)).2 (h.mem_iff.1 ((key u).1 ha))] at hb; cases hb

theorem updM_eq_map {k : ByteArray} {g : Fl → Fl} : ∀ {l : Fs}, Uni l → updM k g l = l.map fun e => if k == e.1 then (e.1, g e.2) else e
  | [], _ => rfl
  | e :: l, u => by
    unfold Uni at u
    rw [List.map_cons, List.nodup_cons] at u
    rw [updM, List.map_cons]
    by_cases h : (k == e.1) = true
    · rw [if_pos h, if_pos h]
      congr 1
      have e1 := (MapKept.bytes_beq _ _).1 h
      have : ∀ x ∈ l, (if k == x.1 then (x.1, g x.2) else x) = x := fun x hx => by
        rw [if_neg]
        intro h2
        have := (MapKept.bytes_beq _ _).1 h2
        exact u.1 (by rw [← e1, this]; exact List.mem_map_of_mem hx)
      rw [List.map_congr_left this]; simp
    · rw [if_neg h, if_neg h, updM_eq_map (l := l) u.2]
theorem updM_perm {a b : Fs} (h : a.Perm b) (u : Uni a) (k : ByteArray) (g : Fl → Fl) : (updM k g a).Perm (updM k g b) := by
  rw [updM_eq_map u, updM_eq_map (uni_perm h u)]; exact h.map _
theorem delM_eq_filter {k : ByteArray} : ∀ {l : Fs}, Uni l → delM k l = l.filter fun e => !(k == e.1)
  | [], _ => rfl
  | e :: l, u => by
    unfold Uni at u
    rw [List.map_cons, List.nodup_cons] at u
    rw [delM]
    by_cases h : (k == e.1) = true
    · rw [if_pos h, List.filter_cons_of_neg (by simp [h])]
      have e1 := (MapKept.bytes_beq _ _).1 h
      symm
      rw [List.filter_eq_self]
      intro x hx
      simp only [Bool.not_eq_true']
      cases h2 : (k == x.1)
      · rfl
      · have := (MapKept.bytes_beq _ _).1 h2
        exact absurd (by rw [← e1, this]; exact List.mem_map_of_mem hx) u.1
    · rw [if_neg h, List.filter_cons_of_pos (by simp [h]), delM_eq_filter (l := l) u.2]
theorem delM_perm {a b : Fs} (h : a.Perm b) (u : Uni a) (k : ByteArray) : (delM k a).Perm (delM k b) := by
  rw [delM_eq_filter u, delM_eq_filter (uni_perm h u)]; exact h.filter _

/-! ### Sorted -/
theorem srt_sub {a b : Fs} (h : a.Sublist b) (s : Srt b) : Srt a := s.sublist h
theorem srt_keys {a b : Fs} (h : a.map (·.1) = b.map (·.1)) (s : Srt b) : Srt a := by
  have h1 : (b.map (·.1)).Pairwise fun x y : ByteArray => x.data.toList < y.data.toList := List.pairwise_map.2 s
  rw [← h] at h1
  unfold Srt
  exact (List.pairwise_map (R := fun x y : ByteArray => x.data.toList < y.data.toList)).1 h1
theorem ltL_trans {a b c : List UInt8} (h1 : a < b) (h2 : b < c) : a < c := List.lt_trans h1 h2
theorem ba_ext {a b : ByteArray} (h : a.data.toList = b.data.toList) : a = b := by
  cases a; cases b; simp only at h; congr 1; exact Array.ext' h
theorem insM_srt {k : ByteArray} {f : Fl} : ∀ {l : Fs}, Srt l → k ∉ l.map (·.1) → Srt (insM (k, f) l)
  | [], _, _ => by simp [insM, Srt]
  | e :: l, s, hk => by
    unfold Srt at s
    rw [List.pairwise_cons] at s
    rw [List.map_cons, List.mem_cons, not_or] at hk
    by_cases h : ltB e.1 k = true
    · have e1 : insM (k, f) (e :: l) = e :: insM (k, f) l := by
        unfold insM
        simp only [atM, if_pos h, List.take_succ_cons, List.drop_succ_cons, List.cons_append]
      rw [e1]
      refine List.pairwise_cons.2 ⟨fun x hx => ?_, insM_srt s.2 hk.2⟩
      rw [(insM_perm (k, f) l).mem_iff] at hx
      rcases List.mem_cons.1 hx with rfl | hx
      · rw [ltB_eq] at h; exact of_decide_eq_true h
      · exact s.1 x hx
    · have e1 : insM (k, f) (e :: l) = (k, f) :: e :: l := by
        unfold insM
        simp only [atM, if_neg h, List.take_zero, List.drop_zero, List.nil_append]
      rw [e1]
      rw [ltB_eq, decide_eq_true_eq] at h
      have hlt : k.data.toList < e.1.data.toList := by
        exact Std.lt_of_le_of_ne h fun h2 => hk.1 (ba_ext h2)
      refine List.pairwise_cons.2 ⟨fun x hx => ?_, List.pairwise_cons.2 s⟩
      rcases List.mem_cons.1 hx with rfl | hx
      · exact hlt
      · exact ltL_trans hlt (s.1 x hx)

theorem names_srt {a b : Fs} (h : a.Perm b) (s : Srt b) : namesOf a = b.map (·.1) := by
  unfold namesOf
  rw [mergeSort_of_perm (h.map _)]
  have hs : (b.map fun e => e.1.data.toList).Pairwise fun x y => (decide (x ≤ y)) = true := by
    rw [List.pairwise_map]
    exact s.imp fun h => by simp only [decide_eq_true_eq]; exact List.le_of_lt h
  rw [List.mergeSort_of_pairwise hs, List.map_map]
  apply List.map_congr_left
  intro e _
  simp

/-! ### Crash -/
theorem crashL_perm : ∀ {ks : List ByteArray} {keep : List Int} {a b : Fs}, a.Perm b → Uni a → (crashL ks keep a).Perm (crashL ks keep b)
  | [], _, _, _, h, _ => h
  | k :: ks, keep, a, b, h, u => by
    rw [crashL, crashL]
    exact crashL_perm (updM_perm h u k _) (uni_upd u)
theorem crashL_app : ∀ {l p : Fs} {keep : List Int}, Uni (p ++ l) → crashL (l.map (·.1)) keep (p ++ l) = p ++ crashP l keep
  | [], p, keep, _ => by simp [crashL, crashP]
  | e :: l, p, keep, u => by
    have hg : getM e.1 p = none := by
      refine getM_of_notin ?_
      unfold Uni at u
      rw [List.map_append, List.nodup_append] at u
      intro hk
      exact u.2.2 _ hk e.1 (by simp) rfl
    have hu2 : Uni ((p ++ [(e.1, cutF keep.head? e.2)]) ++ l) := by
      unfold Uni at *
      have : ((p ++ [(e.1, cutF keep.head? e.2)]) ++ l).map (·.1) = (p ++ e :: l).map (·.1) := by simp
      rw [this]; exact u
    rw [List.map_cons, crashL, show p ++ e :: l = p ++ (e.1, e.2) :: l from rfl, updM_app hg]
    rw [show p ++ (e.1, cutF keep.head? e.2) :: l = (p ++ [(e.1, cutF keep.head? e.2)]) ++ l by simp, crashL_app hu2]
    have : crashP (e :: l) keep = (e.1, cutF keep.head? e.2) :: crashP l keep.tail := by
      unfold crashP
      rw [List.mapIdx_cons]
      congr 1
      · cases keep <;> rfl
      · apply List.ext_getElem?
        intro i
        simp only [List.getElem?_mapIdx]
        congr 1
        funext x
        cases keep <;> simp
    rw [this]; simp

theorem crashL_keys : ∀ (ks : List ByteArray) (keep : List Int) (fs : Fs), (crashL ks keep fs).map (·.1) = fs.map (·.1)
  | [], _, _ => rfl
  | k :: ks, keep, fs => by rw [crashL, crashL_keys, updM_keys]
theorem crashL_sure : ∀ (ks : List ByteArray) (keep : List Int) {fs : Fs}, SureOk fs → SureOk (crashL ks keep fs)
  | [], _, _, h => h
  | k :: ks, keep, fs, h => by
    rw [crashL]
    refine crashL_sure ks _ (sure_upd (fun f hf => ?_) h)
    have := stay_le keep.head? f hf
    show f.sure + stay keep.head? f ≤ (f.b.take (f.sure + stay keep.head? f)).length
    rw [List.length_take]; omega
theorem updM_total_le {k : ByteArray} {g : Fl → Fl} (hg : ∀ f, (g f).b.length ≤ f.b.length) : ∀ fs : Fs, total (updM k g fs) ≤ total fs
  | [] => Int.le_refl _
  | e :: fs => by
    rw [updM]
    split
    · rw [total_cons, total_cons]; have := hg e.2; simp only; omega
    · rw [total_cons, total_cons]; have := updM_total_le (k := k) hg fs; omega
theorem crashL_total : ∀ (ks : List ByteArray) (keep : List Int) (fs : Fs), total (crashL ks keep fs) ≤ total fs
  | [], _, _ => Int.le_refl _
  | k :: ks, keep, fs => by
    rw [crashL]
    refine Int.le_trans (crashL_total ks _ _) (updM_total_le (fun f => ?_) fs)
    show (f.b.take _).length ≤ _
    rw [List.length_take]; omega
theorem crash_inv {st : DS} (i : Inv st) (keep : List Int) : Inv (crashD st keep) :=
  { a0 := Int.le_refl _, a1 := by show (-1 : Int) < _; omega, f0 := Int.le_refl _, f1 := by show (-1 : Int) < _; omega, r0 := i.r0, r1 := i.r1,
    full := Int.le_trans (crashL_total _ _ _) i.full, uni := by unfold Uni crashD; simp only [crashL_keys]; exact i.uni,
    names := by unfold crashD; simp only [crashL_keys]; exact i.names, sure := crashL_sure _ _ i.sure }

/-! ### Alike -/
structure Rel (a b : DS) : Prop where
  room : a.room = b.room
  fail : a.fail = b.fail
  arm : a.arm = b.arm
  off : a.off = b.off
  perm : a.fs.Perm b.fs
  srt : Srt b.fs
  inv : Inv a

theorem Rel.invR {a b : DS} (h : Rel a b) : Inv b :=
  { a0 := by rw [← h.arm]; exact h.inv.a0, a1 := by rw [← h.arm]; exact h.inv.a1, f0 := by rw [← h.fail]; exact h.inv.f0, f1 := by rw [← h.fail]; exact h.inv.f1,
    r0 := by rw [← h.room]; exact h.inv.r0, r1 := by rw [← h.room]; exact h.inv.r1, full := by rw [← h.room, ← total_perm h.perm]; exact h.inv.full,
    uni := uni_perm h.perm h.inv.uni, names := fun k hk => h.inv.names k ((h.perm.map _).mem_iff.2 hk), sure := fun e he => h.inv.sure e (h.perm.mem_iff.2 he) }

theorem Rel.new {room : Int} (h0 : 1 ≤ room) (h1 : room ≤ 16777216) : Rel ⟨room, [], -1, -1, false⟩ ⟨room, [], -1, -1, false⟩ :=
  ⟨rfl, rfl, rfl, rfl, List.Perm.refl _, List.Pairwise.nil, inv_new h0 h1⟩

theorem Rel.chg {a b : DS} (h : Rel a b) (ok : Bool) : Rel (chg a ok).1 (chg b ok).1 ∧ (chg a ok).2 = (chg b ok).2 := by
  have hi := chg_inv h.inv ok
  obtain ⟨room, fs, fail, arm, off⟩ := a
  obtain ⟨room2, fs2, fail2, arm2, off2⟩ := b
  obtain ⟨h1, h2, h3, h4, h5, h6, _⟩ := h
  simp only at h1 h2 h3 h4 h5 h6
  subst h1 h2 h3 h4
  revert hi
  unfold Proofs.Ytbniilhfbfcegaa.chg
  cases ok
  · exact fun hi => ⟨⟨rfl, rfl, rfl, rfl, h5, h6, hi⟩, rfl⟩
  · cases off
    · cases hm : (metN arm).2
      · simp only [hm]
        exact fun hi => ⟨⟨rfl, rfl, rfl, rfl, h5, h6, hi⟩, rfl⟩
      · simp only [hm]
        exact fun hi => ⟨⟨rfl, rfl, rfl, rfl, h5, h6, hi⟩, rfl⟩
    · exact fun hi => ⟨⟨rfl, rfl, rfl, rfl, h5, h6, hi⟩, rfl⟩

theorem Rel.doing {a b : DS} (h : Rel a b) (ok : Bool) {g g' : DS → DS × Int} (hg : ok = true → ∀ a b, Rel a b → Rel (g a).1 (g' b).1 ∧ (g a).2 = (g' b).2) :
    Rel (doing a ok g).1 (doing b ok g').1 ∧ (doing a ok g).2 = (doing b ok g').2 := by
  have h1 := h.chg ok
  unfold Proofs.Ytbniilhfbfcegaa.doing
  by_cases h0 : (Proofs.Ytbniilhfbfcegaa.chg a ok).2 = 0
  · rw [if_pos h0, if_pos (by rw [← h1.2]; exact h0)]
    exact hg (chg_ok h0) _ _ h1.1
  · rw [if_neg h0, if_neg (by rw [← h1.2]; exact h0)]
    exact h1

theorem Rel.get {a b : DS} (h : Rel a b) (k : ByteArray) : getM k a.fs = getM k b.fs := getM_perm h.perm h.inv.uni k
theorem Rel.total {a b : DS} (h : Rel a b) : total a.fs = total b.fs := total_perm h.perm
theorem Rel.names {a b : DS} (h : Rel a b) : namesOf a.fs = b.fs.map (·.1) := names_srt h.perm h.srt
theorem Rel.read {a b : DS} (h : Rel a b) (k : ByteArray) : readD a k = readD b k := by
  unfold readD; rw [h.off, h.get]

theorem Rel.append {a b : DS} (h : Rel a b) (k : ByteArray) (xs : List Int) : Rel (appendD a k xs).1 (appendR b k xs).1 ∧ (appendD a k xs).2 = (appendR b k xs).2 := by
  refine h.doing _ fun hk a b h => ?_
  have hi := appendG_inv h.inv hk xs
  unfold appendG appendGR at *
  rw [h.total, h.room] at *
  by_cases hc : Proofs.Ytbniilhfbfcegaa.total b.fs + xs.length > b.room
  · rw [if_pos hc, if_pos hc]; exact ⟨h, rfl⟩
  · rw [if_neg hc] at *
    rw [if_neg hc]
    have hperm : (ensure k a.fs).Perm (ensureR k b.fs) := by
      unfold ensure ensureR
      rw [h.get]
      split
      · exact h.perm
      · refine List.perm_append_comm.trans ((h.perm.cons _).trans (insM_perm (k, (⟨[], 0⟩ : Fl)) b.fs).symm)
    have hsrt : Srt (ensureR k b.fs) := by
      unfold ensureR
      by_cases hs : (getM k b.fs).isSome = true
      · rw [if_pos hs]; exact h.srt
      · rw [if_neg hs]; exact insM_srt h.srt (notin_of_getM (by simpa using hs))
    refine ⟨⟨rfl, h.fail, h.arm, h.off, updM_perm hperm (uni_ensure h.inv.uni k) k _, srt_keys (updM_keys _ _ _) hsrt, hi⟩, rfl⟩

theorem Rel.sync {a b : DS} (h : Rel a b) (k : ByteArray) : Rel (syncD a k).1 (syncD b k).1 ∧ (syncD a k).2 = (syncD b k).2 := by
  refine h.doing _ fun hk a b h => ?_
  unfold syncG
  rw [h.get]
  split
  · refine ⟨⟨h.room, h.fail, h.arm, h.off, updM_perm h.perm h.inv.uni k _, srt_keys (updM_keys _ _ _) h.srt, ?_⟩, rfl⟩
    have i := h.inv
    exact { toCounts := ⟨i.a0, i.a1, i.f0, i.f1⟩, r0 := i.r0, r1 := i.r1, full := by simp only; rw [updM_total (g := fun f => { f with sure := f.b.length }) (fun _ => rfl)]; exact i.full, uni := uni_upd i.uni, names := by simp only [updM_keys]; exact i.names, sure := sure_upd (fun f _ => Nat.le_refl _) i.sure }
  · exact ⟨h, rfl⟩

theorem Rel.unlink {a b : DS} (h : Rel a b) (k : ByteArray) : Rel (unlinkD a k).1 (unlinkD b k).1 ∧ (unlinkD a k).2 = (unlinkD b k).2 := by
  refine h.doing _ fun hk a b h => ?_
  unfold unlinkG
  rw [h.get]
  split
  · exact ⟨⟨h.room, h.fail, h.arm, h.off, delM_perm h.perm h.inv.uni k, srt_sub (delM_sub k b.fs) h.srt, del_inv h.inv k⟩, rfl⟩
  · exact ⟨h, rfl⟩

theorem Rel.rename {a b : DS} (h : Rel a b) (k to : ByteArray) : Rel (renameD a k to).1 (renameR b k to).1 ∧ (renameD a k to).2 = (renameR b k to).2 := by
  have hri := rename_inv h.inv k to
  refine h.doing _ fun hk a b h => ?_
  have hi : Inv (renameG k to a).1 := renameG_inv h.inv (by simp only [Bool.and_eq_true] at hk; exact hk.2)
  unfold renameG renameGR at *
  rw [h.get] at *
  cases hg : getM k b.fs with
  | none => exact ⟨h, rfl⟩
  | some f =>
    rw [hg] at hi
    simp only at hi ⊢
    by_cases hc : k = to
    · rw [if_pos hc, if_pos hc]; exact ⟨h, rfl⟩
    · rw [if_neg hc] at *
      rw [if_neg hc]
      have p1 : (delM k (delM to a.fs)).Perm (delM to (delM k b.fs)) := by
        have hb := uni_perm h.perm h.inv.uni
        refine (delM_perm (delM_perm h.perm h.inv.uni to) (uni_del h.inv.uni to) k).trans ?_
        rw [delM_eq_filter (uni_del hb to), delM_eq_filter hb, delM_eq_filter (uni_del hb k), delM_eq_filter hb, List.filter_filter, List.filter_filter]
        refine List.Perm.of_eq ?_
        congr 1
        funext e
        exact Bool.and_comm _ _
      have hno : to ∉ (delM to (delM k b.fs)).map (·.1) := notin_of_getM (getM_del_self to (uni_del (uni_perm h.perm h.inv.uni) k))
      refine ⟨⟨h.room, h.fail, h.arm, h.off, ?_, ?_, hi⟩, rfl⟩
      · exact List.perm_append_comm.trans ((p1.cons _).trans (insM_perm (to, f) _).symm)
      · exact insM_srt (srt_sub (delM_sub _ _) (srt_sub (delM_sub _ _) h.srt)) hno

theorem Rel.crash {a b : DS} (h : Rel a b) (keep : List Int) : Rel (crashD a keep) (crashR b keep) := by
  refine ⟨h.room, rfl, rfl, rfl, ?_, ?_, crash_inv h.inv keep⟩
  · show (crashL (namesOf a.fs) keep a.fs).Perm (crashP b.fs keep)
    rw [h.names]
    refine (crashL_perm h.perm h.inv.uni).trans ?_
    have := crashL_app (l := b.fs) (p := []) (keep := keep) (by simpa using uni_perm h.perm h.inv.uni)
    simp only [List.nil_append] at this
    rw [this]
  · refine srt_keys ?_ h.srt
    show (crashP b.fs keep).map (·.1) = _
    unfold crashP
    apply List.ext_getElem?
    intro i
    simp [List.getElem?_mapIdx]
    cases b.fs[i]? <;> rfl

theorem Rel.setFail {a b : DS} (h : Rel a b) (n : Int) (hn : n < 9223372036854775808) : Rel { a with fail := if n < 0 then a.fail else n } { b with fail := if n < 0 then b.fail else n } := by
  refine ⟨h.room, by simp only [h.fail], h.arm, h.off, h.perm, h.srt, ?_⟩
  have i := h.inv
  have f0 := i.f0; have f1 := i.f1
  exact { a0 := i.a0, a1 := i.a1, f0 := by simp only; split <;> omega, f1 := by simp only; split <;> omega, r0 := i.r0, r1 := i.r1, full := i.full, uni := i.uni, names := i.names, sure := i.sure }
theorem Rel.setArm {a b : DS} (h : Rel a b) (n : Int) (hn : n < 9223372036854775808) : Rel { a with arm := if n < 0 then a.arm else n } { b with arm := if n < 0 then b.arm else n } := by
  refine ⟨h.room, h.fail, by simp only [h.arm], h.off, h.perm, h.srt, ?_⟩
  have i := h.inv
  have f0 := i.a0; have f1 := i.a1
  exact { f0 := i.f0, f1 := i.f1, a0 := by simp only; split <;> omega, a1 := by simp only; split <;> omega, r0 := i.r0, r1 := i.r1, full := i.full, uni := i.uni, names := i.names, sure := i.sure }

end Go.Proofs.Ytbniilhfbfcegaa
