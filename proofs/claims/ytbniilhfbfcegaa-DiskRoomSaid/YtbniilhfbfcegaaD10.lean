/- The disk: Names. Condition: a bound on how many files there are. -/
import Derived.Test.YtbniilhfbfcegaaD9
import Derived.Test.YtbniilhfbfcegaaDB3
import Derived.Test.YtbniilhfbfcegaaDIter
import Derived.Test.YtbniilhfbfcegaaSl9
namespace Go.Proofs.Ytbniilhfbfcegaa
open Go Go.VC

variable {R : Cx} {Hs Rest : List HP} {w : World}

/-- The names, rising. -/
def namesOf (fs : Fs) : List ByteArray := ((fs.map fun e => e.1.data.toList).mergeSort (fun x y => decide (x ≤ y))).map fun l => ⟨l.toArray⟩

theorem names_mapT {m c : Nat} {l : List (En ByteArray)} {E : List DE} (hs : strip l = ptrs E) (hst : StampsOk l c) (hu : (E.map (·.1)).Nodup) (hn : ∀ k ∈ E.map (·.1), k.size ≤ 64) (hlen : E.length ≤ 1000000)
    (hm : w.heap[m]? = some (.map (l.map mkE).toArray c)) :
    ∃ D0 : DataW Unit, w.ownsMap Try.prog 9 (fun _ => some (.nil, [])) m 1000000 D0 ∧ Maps.size D0 ≤ 1000000 ∧ ∀ ss : List (List UInt8), ss.Perm (strKeys D0) → ss.Perm (E.map fun e => e.1.data.toList) := by
  have hkeys : l.map (·.1) = E.map (·.1) := by
    have h1 : (strip l).map (·.1) = l.map (·.1) := by simp [strip, Function.comp_def]
    have h2 : (ptrs E).map (·.1) = E.map (·.1) := by simp [ptrs, Function.comp_def]
    rw [← h1, hs, h2]
  have hlen2 : l.length = E.length := by have := congrArg List.length hkeys; simpa using this
  have hkey : ∀ e ∈ l, keyOf Try.prog 9 (mkE e).key = some (.string e.1.data.toList) := fun e he => by
    have hm : e.1 ∈ E.map (·.1) := by rw [← hkeys]; exact List.mem_map_of_mem he
    have hsz := hn _ hm
    simp only [keyOf, Try.underlying9, mkE, mapKey, KeyK.enc]
    rw [if_pos (by unfold maxLen; omega)]
  have hrd : ∀ e ∈ l, WideElems.rd Try.prog 9 (fun _ => some ((.nil : DataW Unit), [])) (mkE e) = some (.string e.1.data.toList, .nil) := fun e he => by
    unfold WideElems.rd
    rw [hkey e he]; rfl
  have hrg : ((l.map mkE).map (WideElems.rg Try.prog 9 (fun _ => some ((.nil : DataW Unit), [])))) = l.map fun e => (.string e.1.data.toList, .nil) := by
    rw [List.map_map]
    apply List.map_congr_left
    intro e he
    simp only [Function.comp, WideElems.rg, hrd e he, Option.getD_some]
  refine ⟨_, ⟨(l.map mkE).toArray, c, hm, ⟨by simp [maxLen]; omega, ?_, ?_⟩, by simp; omega, rfl⟩, ?_, ?_⟩
  · refine ⟨fun x hx => ?_, ?_, ?_⟩
    · simp only [List.mem_map] at hx
      obtain ⟨e, he, rfl⟩ := hx
      exact hst.1 e he
    · have := hst.2; simpa [mkE, Function.comp_def] using this
    · have h2 : (l.map (·.1)).Nodup := by rw [hkeys]; exact hu
      have e1 : ((l.map mkE).toArray.toList.map (·.key)) = (l.map (·.1)).map Value.string := by simp [mkE, Function.comp_def, KeyK.enc]
      rw [e1]
      exact List.Pairwise.map _ (fun a b hab h => hab (by injection h)) h2
  · intro x hx
    simp only [List.mem_map] at hx
    obtain ⟨e, he, rfl⟩ := hx
    exact ⟨_, hrd e he⟩
  · simp only [Maps.size, hrg]
    rw [(WideShapes.sorted_perm _).length_eq]; simp; omega
  · intro ss hss
    refine hss.trans ?_
    simp only [strKeys, hrg]
    refine ((WideShapes.sorted_perm _).map _).trans ?_
    have : (l.map fun e => ((Lit.string e.1.data.toList, DataW.nil) : Lit × DataW Unit)).map (fun p => Go.strOf p.1) = E.map fun e => e.1.data.toList := by
      rw [List.map_map]
      show l.map (fun e => e.1.data.toList) = _
      have := congrArg (List.map fun k : ByteArray => k.data.toList) hkeys
      simpa [Function.comp_def] using this
    rw [this]

theorem nameOk_size {k : ByteArray} (h : nameOk k = true) : k.size ≤ 64 := by
  unfold nameOk at h; simp at h; exact h.1.2

theorem er_keys (E : List DE) : (er E).map (·.1) = E.map (·.1) := by simp [er, Function.comp_def]

theorem names_spec {d : Nat} {st : DS} (i : Inv st) (hc : st.fs.length ≤ 1000000) (hw : Sat R (DiskAt d st :: Hs) w) :
    Gets Try.prog 22 #[.pointer (some ⟨d, 0, none⟩)] w fun r w' => ∃ s : Sl, r = .slice s.a s.len s.cap ∧ Sat R (Own s 9 ((namesOf st.fs).map Value.string) :: DiskAt d st :: Hs) w' := by
  obtain ⟨m, E, hE, hw⟩ := Sat.disk.1 hw
  apply call22
  refine NilP.mk rfl ⟨some m, At.own (eqS hw) (by exact ⟨rfl, trivial⟩), ?_⟩
  have hw2 := hw.take (MapAt m (ptrs E))
  obtain ⟨l, c, hs, hst, hp⟩ := MapAt.iff.1 hw2
  have hu : (E.map (·.1)).Nodup := by rw [← er_keys, hE]; exact i.uni
  have hlen : E.length ≤ 1000000 := by have := congrArg List.length hE; simp [er] at this; omega
  obtain ⟨D0, hown, hsz, hperm⟩ := names_mapT hs hst hu (fun k hk => nameOk_size (i.names k (by rw [← hE, er_keys]; exact hk))) hlen hp.at
  refine (callsIn_wide.1 (Try.maps_Keys_42 (some m) w)).mono ?_
  rintro _ _ ⟨rfl, rfl⟩
  refine ⟨_, rfl, ?_⟩
  refine (callsIn_wide.1 (Try.slices_Sorted_keys_41_42 m _ D0 _ w hown (by unfold maxLen; omega) (by omega))).mono ?_
  rintro _ w' ⟨v, ss, rfl, hS, hrow, hnil, hb⟩
  have hw1 : Sat R (DO d m E st Hs) (w.alloc (.cells #[.map (some m)] 51)) := (Sat.alloc _ hw).drop
  obtain ⟨s, rfl, h3⟩ := Sat.ownsRow hw1 hb hrow
  refine ⟨s, rfl, s, rfl, ?_⟩
  have e : ((ss.mergeSort (fun x y => decide (x ≤ y))).map Proofs.encStr) = (namesOf st.fs).map Value.string := by
    unfold namesOf
    have hp2 := hperm ss hS
    have e2 : (E.map fun e => e.1.data.toList) = st.fs.map fun e => e.1.data.toList := by rw [← hE]; simp [er, Function.comp_def]
    rw [e2] at hp2
    rw [mergeSort_of_perm hp2, List.map_map]
    rfl
  rw [e] at h3
  exact h3.cons fun _ h => DO.shut hE h

end Go.Proofs.Ytbniilhfbfcegaa
