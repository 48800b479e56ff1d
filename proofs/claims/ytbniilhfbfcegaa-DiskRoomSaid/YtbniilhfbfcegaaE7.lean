/- DiskScripts, DiskNames, DiskArms: the laws. Condition: what the rows' readings give. -/
import Derived.Test.YtbniilhfbfcegaaE6
namespace Go.Proofs.Ytbniilhfbfcegaa
open Go Go.VC

variable {R : Cx} {Hs Rest : List HP} {w : World}

theorem br_true {A B : Prop} (h : A) : Br true A B := Br.t rfl h
theorem br_false {A B : Prop} (h : B) : Br false A B := Br.f rfl h

theorem scripts_law {room : Int} {l : Sl} {acts : List AE} (hl : RoN 6 R l (acts.map rowA)) (ha : ∀ e ∈ acts, ActOk R e) (hw : Sat R Hs w) :
    Gets Try.prog 9 #[.int .i64 room, .slice l.a l.len l.cap] w fun r w' => r = .bool true ∧ Sat R Hs w' := by
  have hll : l.len = acts.length := by have := hl.len; simpa using this
  apply call9
  refine (new_spec room hw).use ?_
  rintro _ w (⟨hn, rfl, hw⟩ | ⟨hn, h0, h1, d, rfl, hw⟩)
  · refine ⟨_, _, rfl, (newR_spec room hw).use ?_⟩
    rintro _ w (⟨hn2, rfl, hw⟩ | ⟨hn2, _, _, d, rfl, hw⟩)
    · refine ⟨_, _, rfl, (much_spec hl ha hw).use ?_⟩
      rintro _ w ⟨m, rfl, _, hw⟩
      refine ⟨_, rfl, fun w => Sat R Hs w, Br.f rfl (Br.f rfl hw), fun z w hw => ⟨fun w => False, Br.t rfl ⟨rfl, hw⟩, fun _ _ h => h.elim⟩⟩
    · rw [hn] at hn2; cases hn2
  refine ⟨_, _, rfl, (newR_spec room hw).use ?_⟩
  rintro _ w (⟨hn2, rfl, hw⟩ | ⟨hn2, _, _, r, rfl, hw⟩)
  · rw [hn] at hn2; cases hn2
  refine ⟨_, _, rfl, (much_spec hl ha hw).use ?_⟩
  rintro _ w ⟨m, rfl, hm, hw⟩
  have hw := hw.swap
  refine ⟨_, rfl, fun w => Sat R (DiskAt d ⟨room, [], -1, -1, false⟩ :: RefAt r ⟨room, [], -1, -1, false⟩ :: Hs) w, Br.f rfl (Br.f rfl hw), fun z w hw => ⟨fun w => m = false ∧ Sat R (DiskAt d ⟨room, [], -1, -1, false⟩ :: RefAt r ⟨room, [], -1, -1, false⟩ :: Hs) w, Br.f rfl ?_, ?_⟩⟩
  · cases m
    · exact ⟨rfl, hw⟩
    · exact ⟨rfl, hw.drop.drop⟩
  rintro z w ⟨rfl, hw⟩
  refine ⟨fun i w => ∃ (k : Nat) (st sr : DS), i = k ∧ k ≤ acts.length ∧ k ≤ 300 ∧ Rel st sr ∧ st.fs.length ≤ k ∧ Sat R (DiskAt d st :: RefAt r sr :: Hs) w, fun i _ => acts.length - i.toNat, ⟨0, _, _, rfl, Nat.zero_le _, by omega, Rel.new h0 h1, Nat.le_refl _, hw⟩, ?_⟩
  rintro z _ w ⟨k, st, sr, rfl, hk, hk3, hr, hfl, hw⟩
  refine ⟨fun w => (k < acts.length ∧ k < 300) ∧ Sat R (DiskAt d st :: RefAt r sr :: Hs) w, ?_, ?_⟩
  · (first | with_reducible refine Br.d (fun h => ?_) (fun h => ?_) | with_reducible refine Br.nd (fun h => ?_) (fun h => ?_) | with_reducible refine Br.e (fun h => ?_) (fun h => ?_) | with_reducible refine Br.ne (fun h => ?_) (fun h => ?_) | with_reducible refine Br.nne (fun h => ?_) (fun h => ?_) | with_reducible refine Br.se (fun h => ?_) (fun h => ?_) | with_reducible refine Br.sne (fun h => ?_) (fun h => ?_) | with_reducible refine Br.nb (fun h => ?_) (fun h => ?_) | with_reducible refine Br.mk (fun h => ?_) (fun h => ?_) | refine Br.d (fun h => ?_) (fun h => ?_) | refine Br.nd (fun h => ?_) (fun h => ?_) | refine Br.e (fun h => ?_) (fun h => ?_) | refine Br.ne (fun h => ?_) (fun h => ?_) | refine Br.nne (fun h => ?_) (fun h => ?_) | refine Br.se (fun h => ?_) (fun h => ?_) | refine Br.mk (fun h => ?_) (fun h => ?_))
    · (first | with_reducible refine Br.d (fun h => ?_) (fun h => ?_) | with_reducible refine Br.nd (fun h => ?_) (fun h => ?_) | with_reducible refine Br.e (fun h => ?_) (fun h => ?_) | with_reducible refine Br.ne (fun h => ?_) (fun h => ?_) | with_reducible refine Br.nne (fun h => ?_) (fun h => ?_) | with_reducible refine Br.se (fun h => ?_) (fun h => ?_) | with_reducible refine Br.sne (fun h => ?_) (fun h => ?_) | with_reducible refine Br.nb (fun h => ?_) (fun h => ?_) | with_reducible refine Br.mk (fun h => ?_) (fun h => ?_) | refine Br.d (fun h => ?_) (fun h => ?_) | refine Br.nd (fun h => ?_) (fun h => ?_) | refine Br.e (fun h => ?_) (fun h => ?_) | refine Br.ne (fun h => ?_) (fun h => ?_) | refine Br.nne (fun h => ?_) (fun h => ?_) | refine Br.se (fun h => ?_) (fun h => ?_) | refine Br.mk (fun h => ?_) (fun h => ?_))
      · have a1 : k < acts.length := by omega
        have a2 : k < 300 := by omega
        exact ⟨⟨a1, a2⟩, hw⟩
      · exact ⟨rfl, hw.drop.drop⟩
    · exact ⟨rfl, hw.drop.drop⟩
  rintro z w ⟨⟨hk1, hk2⟩, hw⟩
  have hrd : ReadsN 6 l (acts.map rowA) (fun w' => w' = w) := hl.reads (eqS hw)
  refine hrd.rngM hk1 fun a hadr el => ⟨_, _, _, _, _, _, el.z (by exact ⟨rfl, rfl, rfl, rfl, rfl, rfl, trivial⟩), ?_⟩
  have hok := ha acts[k] (List.getElem_mem _)
  have hlen := hr.len
  refine (does_spec hr.inv hr.invR (by omega) (by omega) hok (hm rfl k hk1 hk2) hw).use ?_
  rintro _ w ⟨b, rfl, hb, hw⟩
  rw [hb hr]
  have hr2 := hr.step acts[k].1 hok.n1
  have hfl2 := step_len st acts[k].1
  refine ⟨_, rfl, (alike_spec hr2 (by omega) hw).use ?_⟩
  rintro _ w ⟨rfl, hw⟩
  refine ⟨_, rfl, Br.f rfl (Br.f rfl ?_)⟩
  rw [wrap64 (by omega) (by omega)]
  exact ⟨⟨k + 1, _, _, by omega, by omega, by omega, hr2, by omega, hw⟩, by dsimp only; omega⟩

theorem getM_of_mem {l : Fs} (u : Uni l) {e : ByteArray × Fl} (h : e ∈ l) : getM e.1 l = some e.2 := by
  obtain ⟨a, b, rfl⟩ := List.append_of_mem h
  refine getM_app (getM_of_notin ?_) (ba_rfl _)
  unfold Uni at u
  rw [List.map_append, List.nodup_append] at u
  intro hx
  exact u.2.2 _ hx _ (by simp) rfl

theorem total_names {fs : Fs} {k : ByteArray} {f : Fl} : total ((k, f) :: fs) = f.b.length + total fs := total_cons _ _

theorem names_law {l : Sl} {acts : List AE} (hl : RoN 6 R l (acts.map rowA)) (ha : ∀ e ∈ acts, ActOk R e) (hw : Sat R Hs w) :
    Gets Try.prog 8 #[.slice l.a l.len l.cap] w fun r w' => r = .bool true ∧ Sat R Hs w' := by
  have hll : l.len = acts.length := by have := hl.len; simpa using this
  apply call8
  refine (new_ok (by decide) (by decide) hw).use ?_
  rintro _ w ⟨d, rfl, hw⟩
  refine ⟨_, _, rfl, (newR_spec 100000 hw).use ?_⟩
  rintro _ w (⟨hn2, rfl, hw⟩ | ⟨hn2, _, _, r, rfl, hw⟩)
  · exact absurd hn2 (by decide)
  refine ⟨_, _, rfl, (much_spec hl ha hw).use ?_⟩
  rintro _ w ⟨m, rfl, hm, hw⟩
  have hw := hw.swap
  refine ⟨_, rfl, fun w => m = false ∧ Sat R (DiskAt d ⟨100000, [], -1, -1, false⟩ :: RefAt r ⟨100000, [], -1, -1, false⟩ :: Hs) w, Br.f rfl (Br.f rfl ?_), ?_⟩
  · cases m
    · exact ⟨rfl, hw⟩
    · exact Br.t rfl (Br.t rfl ⟨rfl, hw.drop.drop⟩)
  rintro z w ⟨rfl, hw⟩
  refine ⟨fun w => ∃ st sr, Rel st sr ∧ st.fs.length ≤ 200 ∧ Sat R (DiskAt d st :: RefAt r sr :: Hs) w, ?_, ?_⟩
  · refine ⟨fun i w => ∃ (k : Nat) (st sr : DS), i = k ∧ k ≤ acts.length ∧ k ≤ 200 ∧ Rel st sr ∧ st.fs.length ≤ k ∧ Sat R (DiskAt d st :: RefAt r sr :: Hs) w, fun i _ => acts.length - i.toNat, ⟨0, _, _, rfl, Nat.zero_le _, by omega, Rel.new (by decide) (by decide), Nat.le_refl _, hw⟩, ?_⟩
    rintro z _ w ⟨k, st, sr, rfl, hk, hk3, hr, hfl, hw⟩
    have out : ∃ st sr, Rel st sr ∧ st.fs.length ≤ 200 ∧ Sat R (DiskAt d st :: RefAt r sr :: Hs) w := ⟨st, sr, hr, by omega, hw⟩
    (first | with_reducible refine Br.d (fun h => ?_) (fun h => ?_) | with_reducible refine Br.nd (fun h => ?_) (fun h => ?_) | with_reducible refine Br.e (fun h => ?_) (fun h => ?_) | with_reducible refine Br.ne (fun h => ?_) (fun h => ?_) | with_reducible refine Br.nne (fun h => ?_) (fun h => ?_) | with_reducible refine Br.se (fun h => ?_) (fun h => ?_) | with_reducible refine Br.sne (fun h => ?_) (fun h => ?_) | with_reducible refine Br.nb (fun h => ?_) (fun h => ?_) | with_reducible refine Br.mk (fun h => ?_) (fun h => ?_) | refine Br.d (fun h => ?_) (fun h => ?_) | refine Br.nd (fun h => ?_) (fun h => ?_) | refine Br.e (fun h => ?_) (fun h => ?_) | refine Br.ne (fun h => ?_) (fun h => ?_) | refine Br.nne (fun h => ?_) (fun h => ?_) | refine Br.se (fun h => ?_) (fun h => ?_) | refine Br.mk (fun h => ?_) (fun h => ?_))
    · (first | with_reducible refine Br.d (fun h => ?_) (fun h => ?_) | with_reducible refine Br.nd (fun h => ?_) (fun h => ?_) | with_reducible refine Br.e (fun h => ?_) (fun h => ?_) | with_reducible refine Br.ne (fun h => ?_) (fun h => ?_) | with_reducible refine Br.nne (fun h => ?_) (fun h => ?_) | with_reducible refine Br.se (fun h => ?_) (fun h => ?_) | with_reducible refine Br.sne (fun h => ?_) (fun h => ?_) | with_reducible refine Br.nb (fun h => ?_) (fun h => ?_) | with_reducible refine Br.mk (fun h => ?_) (fun h => ?_) | refine Br.d (fun h => ?_) (fun h => ?_) | refine Br.nd (fun h => ?_) (fun h => ?_) | refine Br.e (fun h => ?_) (fun h => ?_) | refine Br.ne (fun h => ?_) (fun h => ?_) | refine Br.nne (fun h => ?_) (fun h => ?_) | refine Br.se (fun h => ?_) (fun h => ?_) | refine Br.mk (fun h => ?_) (fun h => ?_))
      · have hk1 : k < acts.length := by omega
        have hk2 : k < 200 := by omega
        have hrd : ReadsN 6 l (acts.map rowA) (fun w' => w' = w) := hl.reads (eqS hw)
        refine hrd.rngM hk1 fun a hadr el => ⟨_, _, _, _, _, _, el.z (by exact ⟨rfl, rfl, rfl, rfl, rfl, rfl, trivial⟩), ?_⟩
        have hok := ha acts[k] (List.getElem_mem _)
        have hlen := hr.len
        refine (does_spec hr.inv hr.invR (by omega) (by omega) hok (hm rfl k hk1 (by omega)) hw).use ?_
        rintro _ w ⟨b, rfl, hb, hw⟩
        have hr2 := hr.step acts[k].1 hok.n1
        have hfl2 := step_len st acts[k].1
        refine ⟨_, rfl, ?_⟩
        rw [wrap64 (by omega) (by omega)]
        exact ⟨⟨k + 1, _, _, by omega, by omega, by omega, hr2, by omega, hw⟩, by dsimp only; omega⟩
      · exact out
    · exact out
  rintro z w ⟨st, sr, hr, hfl, hw⟩
  have hnil : RoI R ⟨none, 0, 0⟩ [] := ⟨rfl, by simp, fun h => absurd rfl h⟩
  refine (crash_spec (s := ⟨none, 0, 0⟩) hr.inv hnil (by omega) hw).use ?_
  rintro _ w ⟨rfl, hw⟩
  refine ⟨rfl, ?_⟩
  have hr2 := hr.crash []
  have hcl := crash_len st []
  generalize hst2 : crashD st [] = st2 at *
  generalize hsr2 : crashR sr [] = sr2 at *
  have i2 := hr2.inv
  have hoff : st2.off = false := by rw [← hst2]; rfl
  refine (names_spec i2 (by omega) hw).use ?_
  rintro _ w ⟨t, rfl, hw⟩
  refine ⟨t, rfl, ?_⟩
  rw [hr2.names] at hw
  have hl2 : sr2.fs.length ≤ 200 := by rw [← hr2.len]; omega
  have htl : t.len = sr2.fs.length := by have := Own.len hw; simpa using this
  have r1 := i2.r1; have hfull := i2.full
  have htot := hr2.total
  obtain ⟨R', hro, up, hw, back⟩ := Own.lend hw (by rw [List.length_map, List.length_map]; omega)
  have hgetn : ∀ (j : Nat) (hj : j < sr2.fs.length), ((sr2.fs.map (·.1))[j]'(by simpa using hj)) = (sr2.fs[j]).1 := fun j hj => by simp
  refine ⟨fun n i w => ∃ k : Nat, i = k ∧ k ≤ sr2.fs.length ∧ n + total (sr2.fs.drop k) = total sr2.fs ∧ 0 ≤ n ∧ Sat R' (DiskAt d st2 :: RefAt r sr :: Hs) w, fun n i _ => sr2.fs.length - i.toNat, ⟨0, rfl, Nat.zero_le _, by simp, Int.le_refl _, hw⟩, ?_⟩
  rintro z n _ w ⟨k, rfl, hk, hsum, h0, hw⟩
  (first | with_reducible refine Br.d (fun h => ?_) (fun h => ?_) | with_reducible refine Br.nd (fun h => ?_) (fun h => ?_) | with_reducible refine Br.e (fun h => ?_) (fun h => ?_) | with_reducible refine Br.ne (fun h => ?_) (fun h => ?_) | with_reducible refine Br.nne (fun h => ?_) (fun h => ?_) | with_reducible refine Br.se (fun h => ?_) (fun h => ?_) | with_reducible refine Br.sne (fun h => ?_) (fun h => ?_) | with_reducible refine Br.nb (fun h => ?_) (fun h => ?_) | with_reducible refine Br.mk (fun h => ?_) (fun h => ?_) | refine Br.d (fun h => ?_) (fun h => ?_) | refine Br.nd (fun h => ?_) (fun h => ?_) | refine Br.e (fun h => ?_) (fun h => ?_) | refine Br.ne (fun h => ?_) (fun h => ?_) | refine Br.nne (fun h => ?_) (fun h => ?_) | refine Br.se (fun h => ?_) (fun h => ?_) | refine Br.mk (fun h => ?_) (fun h => ?_))
  · have hk' : k < sr2.fs.length := by omega
    refine hro.idxStr (eqS hw) (by simpa using hk') ?_
    rw [hgetn k hk']
    refine (read_spec i2 hw).use ?_
    rintro _ w ⟨u, rfl, hw⟩
    have hmem : sr2.fs[k] ∈ sr2.fs := List.getElem_mem _
    have hg : getM (sr2.fs[k]).1 st2.fs = some (sr2.fs[k]).2 := by
      rw [hr2.get]; exact getM_of_mem hr2.invR.uni hmem
    have hok : nameOk (sr2.fs[k]).1 = true := hr2.invR.names _ (List.mem_map_of_mem hmem)
    have hrd : readD st2 (sr2.fs[k]).1 = ((sr2.fs[k]).2.b, 0) := by
      unfold readD; rw [hoff, hok, hg]; rfl
    rw [hrd] at hw ⊢
    have hul : u.len = (sr2.fs[k]).2.b.length := by have := Own.len hw; simpa using this
    rw [drop_get hk', total_cons] at hsum
    have hnn := total_nn (sr2.fs.drop (k + 1))
    have hw := hw.drop
    refine ⟨_, _, rfl, drw_rule hw fun w hw => Br.f rfl ?_⟩
    rw [wrap64 (x := n + (u.len : Int)) (by omega) (by omega), wrap64 (x := (k : Int) + 1) (by omega) (by omega)]
    have next : (∃ k' : Nat, (k : Int) + 1 = k' ∧ k' ≤ sr2.fs.length ∧ n + (u.len : Int) + total (sr2.fs.drop k') = total sr2.fs ∧ 0 ≤ n + (u.len : Int) ∧ Sat R' (DiskAt d st2 :: RefAt r sr :: Hs) w) ∧ sr2.fs.length - ((k : Int) + 1).toNat < sr2.fs.length - (k : Int).toNat :=
      ⟨⟨k + 1, by omega, by omega, by omega, by omega, hw⟩, by omega⟩
    (first | with_reducible refine Br.d (fun h => ?_) (fun h => ?_) | with_reducible refine Br.nd (fun h => ?_) (fun h => ?_) | with_reducible refine Br.e (fun h => ?_) (fun h => ?_) | with_reducible refine Br.ne (fun h => ?_) (fun h => ?_) | with_reducible refine Br.nne (fun h => ?_) (fun h => ?_) | with_reducible refine Br.se (fun h => ?_) (fun h => ?_) | with_reducible refine Br.sne (fun h => ?_) (fun h => ?_) | with_reducible refine Br.nb (fun h => ?_) (fun h => ?_) | with_reducible refine Br.mk (fun h => ?_) (fun h => ?_) | refine Br.d (fun h => ?_) (fun h => ?_) | refine Br.nd (fun h => ?_) (fun h => ?_) | refine Br.e (fun h => ?_) (fun h => ?_) | refine Br.ne (fun h => ?_) (fun h => ?_) | refine Br.nne (fun h => ?_) (fun h => ?_) | refine Br.se (fun h => ?_) (fun h => ?_) | refine Br.mk (fun h => ?_) (fun h => ?_))
    · refine hro.idxStr selfS (by simpa using hk') ?_
      rw [wrap64 (by omega) (by omega), show ((k : Int) - 1) = ((k - 1 : Nat) : Int) by omega]
      refine hro.idxStr selfS (by simp; omega) ?_
      rw [hgetn k hk', hgetn (k - 1) (by omega)]
      refine Br.f ?_ next
      have hlt : (sr2.fs[k - 1]).1.data.toList < (sr2.fs[k]).1.data.toList := List.pairwise_iff_getElem.1 hr2.srt (k - 1) k (by omega) (by omega) (by omega)
      have e1 : Op.bytesLess (sr2.fs[k]).1.toList (sr2.fs[k - 1]).1.toList = false := by
        rw [show Op.bytesLess _ _ = ltB (sr2.fs[k]).1 (sr2.fs[k - 1]).1 from rfl, ltB_eq, decide_eq_false_iff_not]
        exact fun h2 => absurd (ltL_trans hlt h2) (List.lt_irrefl _)
      rw [e1, str_eql, Bool.false_or, decide_eq_false_iff_not]
      intro h2
      rw [h2] at hlt
      exact absurd hlt (List.lt_irrefl _)
    · exact next
  · have : k = sr2.fs.length := by omega
    subst this
    rw [List.drop_length, total_nil] at hsum
    refine (size_spec hw).use ?_
    rintro _ w ⟨rfl, hw⟩
    exact ⟨_, rfl, by rw [htot]; simp; omega, (back hw).drop.drop.drop⟩

end Go.Proofs.Ytbniilhfbfcegaa
