/- The disk: Append. Condition: none. -/
import Derived.Test.YtbniilhfbfcegaaD2
namespace Go.Proofs.Ytbniilhfbfcegaa
open Go Go.VC

variable {R : Cx} {Hs Rest : List HP} {w : World}

/-! ### Plain: one file of many -/
def updM {β : Type} (k : ByteArray) (g : β → β) : List (ByteArray × β) → List (ByteArray × β)
  | [] => []
  | e :: es => if k == e.1 then (e.1, g e.2) :: es else e :: updM k g es

theorem ba_rfl (k : ByteArray) : (k == k) = true := (MapKept.bytes_beq k k).2 rfl
theorem ba_ne {a b : ByteArray} (h : a ≠ b) : (a == b) = false := by
  cases hc : (a == b)
  · rfl
  · exact absurd ((MapKept.bytes_beq a b).1 hc) h

theorem updM_app {β : Type} {k : ByteArray} {g : β → β} {v : β} : ∀ {a b : List (ByteArray × β)}, getM k a = none → updM k g (a ++ (k, v) :: b) = a ++ (k, g v) :: b
  | [], b, _ => by simp [updM, ba_rfl]
  | e :: a, b, h => by
    rw [getM] at h
    split at h
    · cases h
    · rename_i hne
      rw [List.cons_append, updM, if_neg hne, updM_app h]; rfl

theorem er_app (a b : List DE) : er (a ++ b) = er a ++ er b := by simp [er]
theorem er_cons (e : DE) (b : List DE) : er (e :: b) = (e.1, e.2.2) :: er b := rfl
theorem er_get (k : ByteArray) (E : List DE) : getM k (er E) = (getM k E).map (·.2) := getM_map (fun x : Nat × Fl => x.2) k E
theorem ptrs_get (k : ByteArray) (E : List DE) : getM k (ptrs E) = (getM k E).map fun x => .pointer (some ⟨x.1, 0, none⟩) := getM_map (fun x : Nat × Fl => Value.pointer (some ⟨x.1, 0, none⟩)) k E
theorem ptrs_app (a b : List DE) : ptrs (a ++ b) = ptrs a ++ ptrs b := by simp [ptrs]

theorem total_nil : total [] = 0 := rfl
theorem total_cons (e : ByteArray × Fl) (l : Fs) : total (e :: l) = e.2.b.length + total l := rfl
theorem total_app (a b : Fs) : total (a ++ b) = total a + total b := by
  induction a with
  | nil => simp [total_nil]
  | cons e a ih => rw [List.cons_append, total_cons, total_cons, ih]; omega
theorem total_nn (l : Fs) : 0 ≤ total l := by
  induction l with
  | nil => exact Int.le_refl 0
  | cons e l ih => rw [total_cons]; omega
theorem total_one {k : ByteArray} {f : Fl} (a b : Fs) : total (a ++ (k, f) :: b) = total (a ++ b) + f.b.length := by
  rw [total_app, total_cons, total_app]; simp only; omega

/-- A file that is not there is made. -/
def ensure (k : ByteArray) (fs : Fs) : Fs := if (getM k fs).isSome then fs else fs ++ [(k, ⟨[], 0⟩)]
def putB (k : ByteArray) (xs : List Int) (fs : Fs) : Fs := updM k (fun f => { f with b := f.b ++ xs }) (ensure k fs)

/-- No name twice. -/
def Uni (fs : Fs) : Prop := (fs.map (·.1)).Nodup
/-- No more is synced than there is. -/
def SureOk (fs : Fs) : Prop := ∀ e ∈ fs, e.2.sure ≤ e.2.b.length

/-- What is true of a disk. -/
structure Inv (st : DS) : Prop extends Counts st where
  r0 : 1 ≤ st.room
  r1 : st.room ≤ 16777216
  full : total st.fs ≤ st.room
  uni : Uni st.fs
  names : ∀ k ∈ st.fs.map (·.1), nameOk k = true
  sure : SureOk st.fs

theorem notin_of_getM {β : Type} {k : ByteArray} : ∀ {l : List (ByteArray × β)}, getM k l = none → k ∉ l.map (·.1)
  | [], _, h => by cases h
  | e :: l, h, hm => by
    rw [getM] at h
    split at h
    · cases h
    · rename_i hne
      rw [List.map_cons, List.mem_cons] at hm
      rcases hm with rfl | hm
      · exact hne (ba_rfl _)
      · exact notin_of_getM h hm
theorem getM_of_notin {β : Type} {k : ByteArray} : ∀ {l : List (ByteArray × β)}, k ∉ l.map (·.1) → getM k l = none
  | [], _ => rfl
  | e :: l, h => by
    rw [List.map_cons, List.mem_cons, not_or] at h
    rw [getM, if_neg (by rw [ba_ne h.1]; simp), getM_of_notin h.2]
theorem updM_keys {β : Type} (k : ByteArray) (g : β → β) : ∀ l : List (ByteArray × β), (updM k g l).map (·.1) = l.map (·.1)
  | [] => rfl
  | e :: l => by
    rw [updM]
    split
    · rename_i h; have := (MapKept.bytes_beq _ _).1 h; simp
    · rw [List.map_cons, List.map_cons, updM_keys k g l]
theorem uni_upd {k : ByteArray} {g : Fl → Fl} {fs : Fs} (h : Uni fs) : Uni (updM k g fs) := by unfold Uni; rw [updM_keys]; exact h
theorem sure_upd {k : ByteArray} {g : Fl → Fl} (hg : ∀ f : Fl, f.sure ≤ f.b.length → (g f).sure ≤ (g f).b.length) : ∀ {fs : Fs}, SureOk fs → SureOk (updM k g fs)
  | [], h => h
  | e :: fs, h => by
    have h0 := h e List.mem_cons_self
    have h1 : SureOk fs := fun x hx => h x (List.mem_cons_of_mem _ hx)
    rw [updM]
    intro x hx
    split at hx
    · rcases List.mem_cons.1 hx with rfl | hx
      · exact hg _ h0
      · exact h1 x hx
    · rcases List.mem_cons.1 hx with rfl | hx
      · exact h0
      · exact sure_upd hg h1 x hx

def appendG (st : DS) (k : ByteArray) (xs : List Int) : DS × Int :=
  if total st.fs + xs.length > st.room then (st, 3) else ({ st with fs := putB k xs st.fs }, 0)

theorem ensure_total (k : ByteArray) (fs : Fs) : total (ensure k fs) = total fs := by
  unfold ensure
  split
  · rfl
  · rw [total_app]; simp [total_cons, total_nil]

theorem uni_app {fs : Fs} (h : Uni fs) {k : ByteArray} {f : Fl} (hk : getM k fs = none) : Uni (fs ++ [(k, f)]) := by
  unfold Uni at *
  rw [List.map_append, List.nodup_append]
  refine ⟨h, by simp, fun x hx y hy => ?_⟩
  simp at hy
  subst hy
  intro he
  subst he
  exact notin_of_getM hk hx
theorem sure_app {fs : Fs} (h : SureOk fs) {k : ByteArray} {f : Fl} (hf : f.sure ≤ f.b.length) : SureOk (fs ++ [(k, f)]) := by
  intro x hx
  rcases List.mem_append.1 hx with hx | hx
  · exact h x hx
  · simp at hx; subst hx; exact hf
theorem uni_ensure {fs : Fs} (h : Uni fs) (k : ByteArray) : Uni (ensure k fs) := by
  unfold ensure; split
  · exact h
  · rename_i hk; exact uni_app h (by simpa using hk)
theorem sure_ensure {fs : Fs} (h : SureOk fs) (k : ByteArray) : SureOk (ensure k fs) := by
  unfold ensure; split
  · exact h
  · exact sure_app h (Nat.le_refl _)

abbrev box (b : Nat) (v : Value) (T : TypeId) : HP := pts b (.cells [v].toArray T (0, 0))

abbrev mapT : MapT Try.prog 51 ByteArray 9 58 (.pointer none) := ⟨Try.underlying51, Try.underlying9, Try.zeroValue58⟩

/-- The disk, laid open. -/
abbrev DO (d m : Nat) (E : List DE) (st : DS) (Hs : List HP) : List HP := pts d (dCells st m) :: MapAt m (ptrs E) :: FilesAt E :: Hs

theorem DO.look {d m : Nat} {E : List DE} {st : DS} (hw : Sat R (DO d m E st Hs) w) (k : ByteArray) (c : Bool) :
    (Instr.lookup 51 (.map (some m)) (.string k) c).run Try.prog w = .ok (if c then .tuple #[.pointer ((getM k E).map fun x => ⟨x.1, 0, none⟩), .bool (getM k E).isSome] else .pointer ((getM k E).map fun x => ⟨x.1, 0, none⟩)) w := by
  have h := MapAt.look mapT (hw.swap.cons fun _ h => h) k c
  rw [ptrs_get] at h
  have e : ((getM k E).map fun x => Value.pointer (some ⟨x.1, 0, none⟩)).getD (.pointer none) = .pointer ((getM k E).map fun x => ⟨x.1, 0, none⟩) := by cases getM k E <;> rfl
  have e2 : ((getM k E).map fun x => Value.pointer (some ⟨x.1, 0, none⟩)).isSome = (getM k E).isSome := by cases getM k E <;> rfl
  rw [e, e2] at h
  exact h

theorem append1_spec {d bd bb bn : Nat} {st : DS} {k : ByteArray} {x : Sl} {xs : List Int} (i : Inv st) (hx : Ro R x (b8 xs)) (hl : xs.length ≤ 1099511627776)
    (hw : Sat R (DiskAt d st :: box bd (.pointer (some ⟨d, 0, none⟩)) 22 :: box bb (.slice x.a x.len x.cap) 31 :: box bn (.string k) 9 :: Hs) w) :
    Gets Try.prog 25 #[.pointer (some ⟨bd, 0, none⟩), .pointer (some ⟨bb, 0, none⟩), .pointer (some ⟨bn, 0, none⟩)] w fun r w' => r = .int .i64 (appendG st k xs).2 ∧
      Sat R (DiskAt d (appendG st k xs).1 :: box bd (.pointer (some ⟨d, 0, none⟩)) 22 :: box bb (.slice x.a x.len x.cap) 31 :: box bn (.string k) 9 :: Hs) w' := by
  have hxl : x.len = xs.length := by have := hx.len; simpa using this
  have hnn := total_nn st.fs
  have r0 := i.r0; have r1 := i.r1; have hfull := i.full
  apply call25
  obtain ⟨m, E, hE, hw⟩ := Sat.disk.1 hw
  refine drw_rule hw fun w hw => ?_
  refine NilP.mk rfl ⟨some ⟨d, 0, none⟩, At.own selfS (by exact ⟨rfl, trivial⟩), NilP.mk rfl ⟨total st.fs, At.own selfS (by exact ⟨rfl, trivial⟩), NilP.mk rfl ⟨x, At.own selfS (by exact ⟨rfl, trivial⟩), NilP.mk rfl ⟨some ⟨d, 0, none⟩, At.own selfS (by exact ⟨rfl, trivial⟩), NilP.mk rfl ⟨st.room, by rw [add_off]; exact At.own selfS (by exact ⟨rfl, trivial⟩), ?_⟩⟩⟩⟩⟩
  rw [wrap64 (by omega) (by omega)]
  refine Br.mk (fun h => ?_) (fun h => ?_) <;> simp only [decide_eq_true_eq, decide_eq_false_iff_not] at h
  · have e : appendG st k xs = (st, 3) := if_pos (by omega)
    rw [e]; exact ⟨rfl, Sat.disk.2 ⟨m, E, hE, hw⟩⟩
  have e : appendG st k xs = ({ st with fs := putB k xs st.fs }, 0) := if_neg (by omega)
  rw [e]
  refine drw_rule hw fun w hw => ?_
  refine NilP.mk rfl ⟨some ⟨d, 0, none⟩, At.own selfS (by exact ⟨rfl, trivial⟩), NilP.mk rfl ⟨some m, At.own selfS (by exact ⟨rfl, trivial⟩), NilP.mk rfl ⟨k, At.own selfS (by exact ⟨rfl, trivial⟩), _, _, fun w' hw' => DO.look hw' k true, ?_⟩⟩⟩
  refine ⟨fun p w => ∃ q a b f, p = some ⟨q, 0, none⟩ ∧ getM k a = none ∧ er (a ++ (k, q, f) :: b) = ensure k st.fs ∧
    Sat R (DO d m (a ++ (k, q, f) :: b) st (box bd (.pointer (some ⟨d, 0, none⟩)) 22 :: box bb (.slice x.a x.len x.cap) 31 :: box bn (.string k) 9 :: Hs)) w, ?_, ?_⟩
  · refine Br.mk (fun hk => ?_) (fun hk => ?_)
    · simp only [Bool.not_eq_true', Option.isSome_eq_false_iff, Option.isNone_iff_eq_none] at hk
      have hk2 : getM k st.fs = none := by rw [← hE, er_get, hk]; rfl
      refine new_rule hw fun q w hw => drw_rule hw fun w hw => ?_
      refine NilP.mk rfl ⟨some ⟨d, 0, none⟩, At.own selfS (by exact ⟨rfl, trivial⟩), NilP.mk rfl ⟨some m, At.own selfS (by exact ⟨rfl, trivial⟩), NilP.mk rfl ⟨k, At.own selfS (by exact ⟨rfl, trivial⟩), ?_⟩⟩⟩
      have hw2 := hw.take (MapAt m (ptrs E))
      refine MapAt.put mapT hw2 k (.pointer (some ⟨q, 0, none⟩)) fun w hw => ⟨q, E, [], ⟨[], 0⟩, rfl, hk, ?_, ?_⟩
      · rw [er_app, hE]; simp [ensure, hk2, er]
      · have ep : putM k (.pointer (some ⟨q, 0, none⟩)) (ptrs E) = ptrs (E ++ [(k, q, ⟨[], 0⟩)]) := by
          unfold putM; rw [ptrs_get, hk]; simp [ptrs]
        rw [ep] at hw
        have hw := hw.take (pts d (dCells st m))
        refine hw.cons fun _ h => h.cons fun _ h => ?_
        refine Sat.split.2 (Sat.file.2 ⟨⟨none, 0, 0⟩, ?_⟩)
        rw [List.append_nil]
        exact h.cons fun _ h => Own.nil h
    · simp only [Bool.not_eq_false'] at hk
      obtain ⟨⟨q, f⟩, hf⟩ := Option.isSome_iff_exists.1 hk
      obtain ⟨a, b, rfl, ha⟩ := getM_split hf
      rw [hf]
      refine ⟨q, a, b, f, rfl, ha, ?_, hw⟩
      rw [hE]; unfold ensure
      rw [if_pos]; rw [← hE, er_get, hf]; rfl
  rintro z _ w ⟨q, a, b, f, rfl, ha, hE2, hw⟩
  have ht2 : total (er (a ++ (k, q, f) :: b)) = total st.fs := by rw [hE2, ensure_total]
  rw [er_app, er_cons, total_one] at ht2
  have hnn2 := total_nn (er a ++ er b)
  simp only at ht2
  -- the file is opened
  have hw : Sat R (FilesAt (a ++ (k, q, f) :: b) :: pts d (dCells st m) :: MapAt m (ptrs (a ++ (k, q, f) :: b)) :: box bd (.pointer (some ⟨d, 0, none⟩)) 22 :: box bb (.slice x.a x.len x.cap) 31 :: box bn (.string k) 9 :: Hs) w := (hw.cons fun _ h => h.swap).swap
  obtain ⟨s, hw⟩ := Sat.file.1 (Sat.split.1 hw)
  refine drw_rule hw fun w hw => ?_
  refine NilP.mk rfl ⟨s, by rw [add_off]; exact At.own selfS (by exact ⟨rfl, trivial⟩), NilP.mk rfl ⟨x, At.own selfS (by exact ⟨rfl, trivial⟩), ?_⟩⟩
  have el : El Try.prog 31 31 5 1 := ⟨Try.underlying31, ⟨_, Try.underlying31⟩, by kernel_rfl⟩
  have hwo := hw.swap
  have hsrc : Src Try.prog 1 31 (.slice x.a x.len x.cap) xs.length (b8 xs) w := by
    have := srcRo Try.underlying31 hwo hx (by unfold oneAll; simp [Value.oneCell'])
    simpa using this
  refine append_rule (K := fun t w' => NilP (some ⟨q, 0, none⟩) fun a_t44 => ∃ w_9 : World, ((Instr.storeAt 31 (.pointer ((some (Addr.add a_t44 0)))) (.slice t.a t.len t.cap)).run Try.prog w' = .ok () w_9) ∧ _) el hwo hsrc (by unfold oneAll; simp [Value.oneCell']) (by simp; omega) (by simp; omega) fun t w hw => NilP.mk rfl ?_
  rw [add_off]
  refine store_rule hw (by kernel_rfl) rfl (by simp [Value.cells]) fun w hw => ?_
  have hw : Sat R (pts q (.cells [.slice t.a t.len t.cap, .int .i64 f.sure].toArray 61 (0, 0)) :: Own t 5 (b8 (f.b ++ xs)) :: FilesAt (a ++ b) :: pts d (dCells st m) :: MapAt m (ptrs (a ++ (k, q, f) :: b)) :: box bd (.pointer (some ⟨d, 0, none⟩)) 22 :: box bb (.slice x.a x.len x.cap) 31 :: box bn (.string k) 9 :: Hs) w := by
    rw [show b8 (f.b ++ xs) = b8 f.b ++ b8 xs by simp]; exact hw
  have hw : Sat R (FilesAt (a ++ (k, q, { f with b := f.b ++ xs }) :: b) :: pts d (dCells st m) :: MapAt m (ptrs (a ++ (k, q, f) :: b)) :: box bd (.pointer (some ⟨d, 0, none⟩)) 22 :: box bb (.slice x.a x.len x.cap) 31 :: box bn (.string k) 9 :: Hs) w :=
    Sat.split.2 (Sat.file.2 ⟨t, hw⟩)
  refine drw_rule hw fun w hw => ?_
  refine NilP.mk rfl ⟨some ⟨d, 0, none⟩, At.own selfS (by exact ⟨rfl, trivial⟩), NilP.mk rfl ⟨total st.fs, At.own selfS (by exact ⟨rfl, trivial⟩), NilP.mk rfl ⟨x, At.own selfS (by exact ⟨rfl, trivial⟩), NilP.mk rfl ?_⟩⟩⟩
  rw [wrap64 (by omega) (by omega)]
  refine store_rule hw (by kernel_rfl) rfl (by simp [Value.cells]) fun w hw => ⟨rfl, ?_⟩
  refine Sat.disk.2 ⟨m, a ++ (k, q, { f with b := f.b ++ xs }) :: b, ?_, ?_⟩
  · simp only [putB]
    rw [← hE2, er_app, er_cons, er_app, er_cons, updM_app]
    rw [er_get, ha]; rfl
  · have ep : ptrs (a ++ (k, q, { f with b := f.b ++ xs }) :: b) = ptrs (a ++ (k, q, f) :: b) := by simp [ptrs]
    have et : total (putB k xs st.fs) = total st.fs + x.len := by
      unfold putB
      rw [← hE2, er_app, er_cons, updM_app (by rw [er_get, ha]; rfl), total_one, ← ht2, hxl]
      simp; omega
    rw [ep]
    have hw := hw.cons fun _ h => h.swap
    unfold dCells
    simp only [et]
    exact hw

end Go.Proofs.Ytbniilhfbfcegaa
