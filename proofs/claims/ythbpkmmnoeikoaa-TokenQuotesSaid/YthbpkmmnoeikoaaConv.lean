/-
  A text turned to bytes: where they lie, and that they are the text's. Condition: a text of at most 2^32 bytes.
-/
import Derived.Test.YthbpkmmnoeikoaaUtfGet
import Derived.Laws.IdiomStrings
namespace Go.Proofs.Ythbpkmmnoeikoaa
open Go Go.RowKit
set_option linter.unusedVariables false

def cvCap (s : ByteArray) (W : World) : Nat := grownCap W s.size 0 5
def cvBlk (s : ByteArray) (W : World) : Obj := .cells (bytesRow s (cvCap s W)) 5 ((bytesRow s (cvCap s W)).size, (bytesRow s (cvCap s W)).size + 1)
theorem cv_run (s : ByteArray) (W : World) : (convert 9 67 (.string s)).run Try.prog W = .ok (.slice (some ⟨W.heap.size, 0, none⟩) s.size (cvCap s W)) (W.drew.alloc (cvBlk s W)) :=
  run_bytes_of_string W 9 67 5 s Try.underlying9 Try.underlying67 Try.underlying5

theorem cv_bytes (s : ByteArray) (W : World) (hs : s.size ≤ maxLen) : BytesV (W.drew.alloc (cvBlk s W)) (.slice (some ⟨W.heap.size, 0, none⟩) s.size (cvCap s W)) s.data.toList := by
  have hl : s.data.toList.length = s.size := len_data s
  refine ⟨some ⟨W.heap.size, 0, none⟩, cvCap s W, by rw [hl], by rw [hl]; exact grownCap_ge W s.size 0 5, grownCap_le_maxLen W s.size 0 5 hs, fun j hj => ⟨W.heap.size, 0, rfl, ?_⟩⟩
  rw [hl] at hj
  have hb := heap_alloc_new W.drew (cvBlk s W)
  rw [Nat.zero_add]
  unfold World.cell?
  show (match (W.drew.alloc (cvBlk s W)).heap[W.heap.size]? with | some (.cells c _ _) => if (none : Option Nat).isSome then none else c[j]? | _ => none) = _
  rw [show W.heap.size = W.drew.heap.size from rfl, hb]
  unfold cvBlk bytesRow
  have hj2 : j < s.data.size := hj
  simp only [Option.isSome_none, Bool.false_eq_true, if_false]
  rw [Array.getElem?_append_left (by rw [Array.size_map]; exact hj2), Array.getElem?_map, Array.getElem?_eq_getElem hj2]
  rfl
theorem cv_below (s : ByteArray) (W : World) : Below W.heap.size W (W.drew.alloc (cvBlk s W)) := ((Below.refl _ W).drew).alloc (Nat.le_refl _) _

end Go.Proofs.Ythbpkmmnoeikoaa
