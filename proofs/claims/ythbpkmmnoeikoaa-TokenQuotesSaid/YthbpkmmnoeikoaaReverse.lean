/-
  slices.Reverse at bytes: the cells of a slice of the call's own hold the bytes in the other order. Condition: they are fewer than 2^63.
-/
import Derived.Test.YthbpkmmnoeikoaaKit
import Derived.Shelf.RegionOpenPlain
import Derived.Deep.LoopGhost
import Derived.Lib.Walk
import Derived.Sort.WalkB12
import Derived.Lib.SlicesMore
import Derived.Laws.BytesArg
import Derived.Deep.AppendLies
namespace Go.Proofs.Ythbpkmmnoeikoaa
open Go.RowKit Go.Lib Go.Sort

/-- a byte as a value -/
def encB (c : UInt8) : Value := .int .u8 (c.toNat : Int)

set_option maxHeartbeats 1600000 in
set_option maxRecDepth 1000000 in
theorem reverse_arr (blk off cap : Nat) (d : Array UInt8) (w : World) (hH : Holds encB w blk off d) (hsz : d.size ≤ 9223372036854775807) :
    Calls Try.prog 42 #[.slice (some ⟨blk, off, none⟩) d.size cap] w fun e w' => e = .returned (.tuple #[]) ∧ ∃ n, w' = putRow encB (Sort.ahead w n) blk off d.reverse := by
  go_enter Try.func42, Try.ntmps42
  go_wp2
  go_loopg [2, 3] d.size (fun k s2 s3 wr => ∃ (i jn : Nat) (jz : Int) (dk : Array UInt8) (n : Nat), s2 = .int .i64 i ∧ s3 = .int .i64 jz ∧ ((i : Int) < jz → jz = jn ∧ jn < d.size) ∧ (¬ (i : Int) < jz → ¬ i < jn) ∧ jn - i ≤ k ∧
    dk.size = d.size ∧ wr = putRow encB (Sort.ahead w n) blk off dk ∧ reverseLoop i jn dk = reverseLoop 0 (d.size - 1) d)
  case atStart => exact ⟨0, d.size - 1, (d.size : Int) - 1, d, 0, rfl, rfl, fun h => ⟨by omega, by omega⟩, fun h => by omega, by omega, rfl, (putRow_self encB w blk off d hH).symm, rfl⟩
  case round =>
    obtain ⟨i, jn, jz, dk, n, rfl, rfl, h1, h2, hk, hds, hwr, heq⟩ := hrel
    by_cases hlt : (i : Int) < jz
    · obtain ⟨rfl, hjn⟩ := h1 hlt
      have hij : i < jn := by omega
      have hHk : Holds encB wr blk off dk := by rw [hwr]; exact holds_putRow encB _ blk off d dk (holds_ahead encB w n blk off d hH) hds
      obtain ⟨ci, fi⟩ := hHk i (by omega)
      obtain ⟨cj, fj⟩ := hHk jn (by omega)
      have A : Aside (wr = putRow encB (Sort.ahead w n) blk off dk) := hwr
      clear hwr hHk hH h1 h2
      obtain ⟨x, hx⟩ : ∃ x : Int, Value.int .u8 x = encB dk[i]! := ⟨_, rfl⟩
      obtain ⟨y, hy⟩ : ∃ y : Int, Value.int .u8 y = encB dk[jn]! := ⟨_, rfl⟩
      rw [← hx] at ci
      rw [← hy] at cj
      have HX := Lib.hid hx
      have HY := Lib.hid hy
      clear hx hy
      go_wp2_with fail
      go_region
      go_wp2
      go_roundg (jn - 1 - (i + 1))
      case measure => omega
      case rel =>
        rw [reverseLoop, if_pos hij] at heq
        exact ⟨i + 1, jn - 1, (jn : Int) - 1, swp dk i jn, n + 1, by simp, rfl, fun h => ⟨by omega, by omega⟩, fun h => by omega, Nat.le_refl _, by rw [size_swp]; exact hds,
          swap_world encB (by omega) (by omega) A.out HY.out HX.out, heq⟩
    · have hnot := h2 hlt
      go_wp2
      go_end0
      refine ⟨rfl, n, ?_⟩
      rw [reverseLoop, if_neg hnot] at heq
      rw [← Lib.reverseLoop_reverse, ← heq]

theorem putRow_heap {α : Type} [Inhabited α] (enc : α → Value) (w : World) (g off k : Nat) (d : Array α) (h : k ≠ g) : (putRow enc w g off d).heap[k]? = w.heap[k]? := by
  unfold putRow mapBlock
  simp only [Array.getElem?_modify]
  rw [if_neg (fun e => h e.symm)]
theorem putRow_heap_same {α : Type} [Inhabited α] (enc : α → Value) (w : World) (g off : Nat) (d : Array α) {cur : Array Value} {e : TypeId} {fz : Nat × Nat} (h : w.heap[g]? = some (.cells cur e fz)) :
    (putRow enc w g off d).heap[g]? = some (.cells (putCells enc off d cur) e fz) := by
  unfold putRow mapBlock
  simp [Array.getElem?_modify, h, onCells]
theorem putRow_grown {α : Type} [Inhabited α] (enc : α → Value) (w : World) (g n off : Nat) (d : Array α) : w.grownBy (putRow enc (Sort.ahead w n) g off d) (some g) :=
  ⟨rfl, rfl, rfl, by unfold putRow mapBlock Sort.ahead; simp, fun k _ hk => putRow_heap enc (Sort.ahead w n) g off k d (fun e => hk (by rw [e]))⟩

/-- the bytes of a slice of the call's own, in the other order -/
theorem reverse_own (base : Nat) (v : Value) (l : List UInt8) (w : World) (h : w.ownsRow base 5 1 v l.length (l.map encB)) (hl : 0 < l.length) :
    Calls Try.prog 42 #[v] w fun e w' => e = .returned (.tuple #[]) ∧ w'.ownsRow base 5 1 v l.length (l.reverse.map encB) ∧ w.grownBy w' v.ownBlock := by
  obtain ⟨hlen, hcase⟩ := h
  rcases hcase with ⟨_, h0⟩ | ⟨g, cap, cur, rfl, hb, hg, hn, hm, hcs, htk⟩
  · simp at h0; subst h0; simp at hl
  · have hcur : ∀ j, j < l.length → cur[j]? = some (encB l.toArray[j]!) := by
      intro j hj
      have h1 : (cur.toList.take l.length)[j]? = (l.map encB)[j]? := by
        have := congrArg (fun z => z[j]?) htk
        simpa using this
      rw [List.getElem?_take, if_pos hj] at h1
      have h2 : cur[j]? = (l.map encB)[j]? := by simpa using h1
      rw [h2]
      simp [hj]
    have hH : Holds encB w g 0 l.toArray := by
      intro j hj
      have hj' : j < l.length := by simpa using hj
      refine ⟨?_, by simp [World.frozen?, hg]⟩
      rw [cell_of_row w g (0 + j) cur 5 (0, 0) hg, Nat.zero_add]
      exact hcur j hj'
    have hc := reverse_arr g 0 cap l.toArray w hH (by unfold maxLen at hm; simp; omega)
    rw [List.size_toArray] at hc
    refine hc.mono ?_
    rintro e w' ⟨rfl, n, rfl⟩
    refine ⟨rfl, ⟨by simp, .inr ⟨g, cap, putCells encB 0 l.toArray.reverse cur, rfl, hb, putRow_heap_same encB (Sort.ahead w n) g 0 _ hg, hn, hm, by simp [putCells, hcs], ?_⟩⟩, ?_⟩
    · apply List.ext_getElem?
      intro k
      simp only [Nat.mul_one, List.getElem?_take, Array.getElem?_toList, List.getElem?_map]
      by_cases hk : k < l.length
      · rw [if_pos hk]
        unfold putCells
        rw [Array.getElem?_mapIdx, hcur k hk]
        have hk2 : k < l.reverse.length := by simpa using hk
        simp [hk]
      · rw [if_neg hk, List.getElem?_eq_none (by simp; omega)]; rfl
    · exact putRow_grown encB w g n 0 _

/-- bytes of the call's own, as a string -/
theorem run_string_own {P : Program} (w : World) (base e src dst : TypeId) (hs : P.underlying src = some (.slice e)) (he : P.underlying e = some (.int .u8)) (hd : P.underlying dst = some .string)
    (v : Value) (l : List UInt8) (h : w.ownsRow base e 1 v l.length (l.map encB)) : (convert src dst v).run P w = .ok (str l) w := by
  obtain ⟨hlen, hcase⟩ := h
  rcases hcase with ⟨rfl, h0⟩ | ⟨g, cap, cur, rfl, hb, hg, hn, hm, hcs, htk⟩
  · simp at h0; subst h0
    rw [run_convert_bytes_nil w src e hs he 0 0 dst hd]; rfl
  · have hc := run_convert_bytes_arg w src e hs he g 0 l.length cap (l.map fun c => (c.toNat : Int)) (by simp) (fun i hi => by
      rw [cell_of_row w g (0 + i) cur e (0, 0) hg, Nat.zero_add]
      have h1 : (cur.toList.take l.length)[i]? = (l.map encB)[i]? := by
        have := congrArg (fun z => z[i]?) htk
        simpa using this
      rw [List.getElem?_take, if_pos hi] at h1
      have h2 : cur[i]? = (l.map encB)[i]? := by simpa using h1
      rw [h2]
      simp [hi, encB]) dst hd
    rw [hc]
    have e1 : strOfNums (l.map fun c => (c.toNat : Int)) = ⟨l.toArray⟩ := by
      unfold strOfNums
      congr 2
      rw [List.map_map]
      have : (fun n : Int => UInt8.ofNat n.toNat) ∘ (fun c : UInt8 => (c.toNat : Int)) = id := by
        funext c; simp
      rw [this, List.map_id]
    rw [e1]; rfl

end Go.Proofs.Ythbpkmmnoeikoaa
