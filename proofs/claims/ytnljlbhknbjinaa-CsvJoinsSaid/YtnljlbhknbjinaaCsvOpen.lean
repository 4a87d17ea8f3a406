/-
  A slice of slices of strings that came in, opened: RowsV, and that nothing in it is longer than the form lets it be. No program text.
-/
import Derived.Test.YtnljlbhknbjinaaNest
import Derived.SliceStrings
import Derived.Deep.Slices
import Derived.SizedLaws
import Derived.WalkKit
import Derived.ProofKit
import Derived.OpenShut
import Derived.ShutString
import Derived.ChangeOld
import Derived.Below
namespace Go.Proofs.Ytnljlbhknbjinaa
open Go Go.RowKit
set_option linter.unusedVariables false

theorem cells_rr : Try.prog.cellsOf 38 = 1 := by kernel_rfl
theorem cells_ss : Try.prog.cellsOf 9 = 1 := by kernel_rfl
theorem bytes_rr : Try.prog.bytesOf 38 = 24 := by kernel_rfl
theorem bytes_ss : Try.prog.bytesOf 9 = 16 := by kernel_rfl

theorem weightsAll_mem {H : Type} {P : Program} {e : TypeId} : ∀ {ds : List (DataW H)} {d : DataW H}, d ∈ ds → ∀ n ∈ d.weights P e, n ∈ DataW.weightsAll P e ds
  | [], _, h, _, _ => by simp at h
  | d0 :: ds, d, h, n, hn => by
    rw [DataW.weightsAll, List.mem_append]
    rcases List.mem_cons.1 h with rfl | h
    · exact .inl hn
    · exact .inr (weightsAll_mem h n hn)

section
variable {H : Type} {enc : TypeId × Value → H} {W : World}

theorem open_strs {fuel : Nat} {v : Value} {x : DataW H × List MemPlace} (h : DataW.trod enc Try.prog W 0 (fun _ => true) true fuel 38 [v] = some x) (hw : ∀ n ∈ x.1.weights Try.prog 38, n ≤ reachBytes) :
    ∃ r, StrsV W v r ∧ r.length ≤ 140737488355328 ∧ ∀ f ∈ r, f.length ≤ 140737488355328 := by
  rcases Go.ChangeShapes.open_strings Try.underlying38 Try.underlying9 cells_ss h with ⟨hcs, hx⟩ | ⟨a, len, cap, ss, hcs, _, hl, hm, hz, hx, hcell, hsz⟩
  · obtain rfl : v = .slice none 0 0 := by simpa using hcs
    exact ⟨[], StrsV.mk0, by simp, by simp⟩
  · obtain rfl : v = .slice (some a) len cap := by simpa using hcs
    simp only [if_true] at hz
    subst hx
    have hlen : ((ss.take len).map (fun s => s.data.toList)).length = len := by rw [List.length_map, List.length_take]; omega
    have hwd := hw
    simp only [DataW.weights, Try.underlying38, List.mem_cons, List.mem_append] at hwd
    have h1 := hwd _ (.inl rfl)
    rw [bytes_ss] at h1
    simp only [Go.ChangeShapes.strs, List.length_map, List.length_take, List.length_drop, reachBytes] at h1
    refine ⟨(ss.take len).map (fun s => s.data.toList), ⟨some a, cap, by rw [hlen], fun j hj => ?_⟩, by rw [hlen]; omega, ?_⟩
    · rw [hlen] at hj
      have hc := hcell 0 (by omega)
      obtain ⟨b, off, spot⟩ := a
      have hspot : spot = none := by simpa [Addr.add] using World.cell?_spot hc
      subst hspot
      refine ⟨b, off, rfl, ?_⟩
      have hcj := hcell j (by omega)
      rw [Go.WideShapes.add_plain] at hcj
      rw [hcj]
      simp only [List.getElem_map, List.getElem_take]
      rw [List.getD_eq_getElem?_getD, List.getElem?_eq_getElem (by omega)]
      rfl
    · intro f hf
      obtain ⟨s, hs, rfl⟩ := List.mem_map.1 hf
      have := hwd s.data.toList.length (.inr (.inl (weightsAll_mem (d := .lit (.string s.data.toList)) (by simp only [Go.ChangeShapes.strs]; exact List.mem_map.2 ⟨s, hs, rfl⟩) _ (by simp [DataW.weights]))))
      have : reachBytes < 140737488355328 := by decide
      omega

theorem open_rows {v : Value} {d : DataW H} {ps : List MemPlace} (hv : ∃ p len cap, v = .slice p len cap) (h : DataW.Trod enc Try.prog W 0 (fun _ => true) true 23 v d ps) (hw : ∀ n ∈ d.weights Try.prog 23, n ≤ reachBytes) :
    ∃ rs p cap, v = .slice p rs.length cap ∧ rs.length ≤ cap ∧ cap ≤ maxLen ∧ RowsV W v rs ∧ rs.length ≤ 140737488355328 ∧ ∀ r ∈ rs, r.length ≤ 140737488355328 ∧ ∀ f ∈ r, f.length ≤ 140737488355328 := by
  obtain ⟨fuel, hf⟩ := h
  obtain ⟨p0, len0, cap0, rfl⟩ := hv
  have hcv : (Value.slice p0 len0 cap0).cells.toList = [.slice p0 len0 cap0] := by simp [Value.cells]
  rw [hcv] at hf
  rcases Go.Deep.open_slice1 Try.underlying23 cells_rr hf with ⟨hcs, _⟩ | ⟨a, len, cap, m, n, V, D, Pl, hcs, _, hl, hm, hmm, hx, helem⟩
  · simp at hcs
    obtain ⟨rfl, rfl, rfl⟩ := hcs
    exact ⟨[], none, 0, rfl, Nat.le_refl _, Nat.zero_le _, RowsV.mk0, by simp, by simp⟩
  · simp at hcs
    obtain ⟨rfl, rfl, rfl⟩ := hcs
    simp only [if_true] at hmm
    subst hmm
    simp only [Prod.mk.injEq] at hx
    obtain ⟨rfl, _⟩ := hx
    simp only [DataW.weights, Try.underlying23, List.mem_cons, List.mem_append] at hw
    have h1 := hw _ (.inl rfl)
    rw [bytes_rr] at h1
    simp only [List.length_map, List.length_range, reachBytes] at h1
    have each : ∀ i, i < len0 → ∃ r : List (List UInt8), StrsV W (V i) r ∧ r.length ≤ 140737488355328 ∧ ∀ f ∈ r, f.length ≤ 140737488355328 := fun i hi =>
      open_strs (helem i (by omega)).2 (fun q hq => hw q (.inr (.inl (weightsAll_mem (d := D i) (List.mem_map.2 ⟨i, List.mem_range.2 hi, rfl⟩) q hq))))
    obtain ⟨R, hR⟩ := Go.Deep.choose_lt each
    refine ⟨(List.range len0).map R, some a, m, by simp, by simpa using hl, hm, ⟨some a, m, by simp, fun j hj => ?_⟩, by simp; omega, ?_⟩
    · have hj2 : j < len0 := by simpa using hj
      have hc := (helem 0 (by omega)).1
      obtain ⟨b, off, spot⟩ := a
      have hspot : spot = none := by simpa [Addr.add] using World.cell?_spot hc
      subst hspot
      have hcj := (helem j (by omega)).1
      rw [Go.WideShapes.add_plain] at hcj
      refine ⟨b, off, V j, rfl, hcj, ?_⟩
      have := (hR j hj2).1
      simpa using this
    · intro r hr
      obtain ⟨i, hi, rfl⟩ := List.mem_map.1 hr
      exact (hR i (List.mem_range.1 hi)).2
end

end Go.Proofs.Ytnljlbhknbjinaa
