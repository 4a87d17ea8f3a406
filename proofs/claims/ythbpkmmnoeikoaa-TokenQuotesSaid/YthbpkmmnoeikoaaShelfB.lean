/-
  The library's contracts for strings.Builder, laid at this program's numbers, and said of lists of bytes. No condition beside each contract's own.
-/
import Derived.Shelf.Strings.Builder1
import Derived.Shelf.Strings.BuilderF
import Derived.Shelf.Strings.BuilderK
import Derived.Test.YthbpkmmnoeikoaaProg
namespace Go.Proofs
open Go.Shelf
def Try.lays240_ren : Go.Shelf.Ren := ⟨fun | 240 => 99 | 276 => 111 | n => n, fun | 0 => 0 | 4 => 4 | 9 => 9 | 20 => 20 | 37 => 67 | 70 => 107 | 72 => 109 | 164 => 142 | n => n, fun | n => n⟩
theorem Try.lays240 : Go.Proofs.Lays.n240 Try.prog Try.lays240_ren := {
  mixed := by kernel_rfl
  f240 := Try.func99.trans (congrArg some (by kernel_rfl))
  f276 := Try.func111.trans (congrArg some (by kernel_rfl))
  t0 := Try.underlying0
  a0 := Try.isAgg0
  z0 := Try.sizeOf0
  v0 := Try.zeroValue0
  t4 := Try.underlying4
  a4 := Try.isAgg4
  z4 := Try.sizeOf4
  v4 := Try.zeroValue4
  t9 := Try.underlying9
  a9 := Try.isAgg9
  z9 := Try.sizeOf9
  v9 := Try.zeroValue9
  t20 := Try.underlying20
  a20 := Try.isAgg20
  z20 := Try.sizeOf20
  v20 := Try.zeroValue20
  t70 := Try.underlying107
  a70 := Try.isAgg107
  z70 := Try.sizeOf107
  v70 := Try.zeroValue107
  t72 := Try.underlying109
  a72 := Try.isAgg109
  z72 := Try.sizeOf109
  v72 := Try.zeroValue109
  t164 := Try.underlying142
  a164 := Try.isAgg142
  z164 := Try.sizeOf142
  v164 := Try.zeroValue142 }
def Try.lays166_ren : Go.Shelf.Ren := ⟨fun | 166 => 77 | 240 => 99 | 276 => 111 | n => n, fun | 0 => 0 | 3 => 3 | 4 => 4 | 5 => 5 | 9 => 9 | 20 => 20 | 37 => 67 | 70 => 107 | 72 => 109 | 75 => 111 | 80 => 116 | 164 => 142 | n => n, fun | n => n⟩
theorem Try.lays166 : Go.Proofs.Lays.n166 Try.prog Try.lays166_ren := {
  mixed := by kernel_rfl
  f166 := Try.func77.trans (congrArg some (by kernel_rfl))
  f240 := Try.func99.trans (congrArg some (by kernel_rfl))
  f276 := Try.func111.trans (congrArg some (by kernel_rfl))
  t0 := Try.underlying0
  a0 := Try.isAgg0
  z0 := Try.sizeOf0
  v0 := Try.zeroValue0
  t3 := Try.underlying3
  a3 := Try.isAgg3
  z3 := Try.sizeOf3
  v3 := Try.zeroValue3
  t4 := Try.underlying4
  a4 := Try.isAgg4
  z4 := Try.sizeOf4
  v4 := Try.zeroValue4
  t9 := Try.underlying9
  a9 := Try.isAgg9
  z9 := Try.sizeOf9
  v9 := Try.zeroValue9
  t20 := Try.underlying20
  a20 := Try.isAgg20
  z20 := Try.sizeOf20
  v20 := Try.zeroValue20
  t37 := Try.underlying67
  a37 := Try.isAgg67
  z37 := Try.sizeOf67
  v37 := Try.zeroValue67
  t70 := Try.underlying107
  a70 := Try.isAgg107
  z70 := Try.sizeOf107
  v70 := Try.zeroValue107
  t72 := Try.underlying109
  a72 := Try.isAgg109
  z72 := Try.sizeOf109
  v72 := Try.zeroValue109
  t75 := Try.underlying111
  a75 := Try.isAgg111
  z75 := Try.sizeOf111
  v75 := Try.zeroValue111
  t164 := Try.underlying142
  a164 := Try.isAgg142
  z164 := Try.sizeOf142
  v164 := Try.zeroValue142 }
def Try.lays167_ren : Go.Shelf.Ren := ⟨fun | 167 => 76 | 240 => 99 | 276 => 111 | n => n, fun | 0 => 0 | 4 => 4 | 5 => 5 | 9 => 9 | 20 => 20 | 37 => 67 | 70 => 107 | 72 => 109 | 75 => 111 | 80 => 116 | 164 => 142 | n => n, fun | n => n⟩
theorem Try.lays167 : Go.Proofs.Lays.n167 Try.prog Try.lays167_ren := {
  mixed := by kernel_rfl
  f167 := Try.func76.trans (congrArg some (by kernel_rfl))
  f240 := Try.func99.trans (congrArg some (by kernel_rfl))
  f276 := Try.func111.trans (congrArg some (by kernel_rfl))
  t0 := Try.underlying0
  a0 := Try.isAgg0
  z0 := Try.sizeOf0
  v0 := Try.zeroValue0
  t4 := Try.underlying4
  a4 := Try.isAgg4
  z4 := Try.sizeOf4
  v4 := Try.zeroValue4
  t5 := Try.underlying5
  a5 := Try.isAgg5
  z5 := Try.sizeOf5
  v5 := Try.zeroValue5
  t9 := Try.underlying9
  a9 := Try.isAgg9
  z9 := Try.sizeOf9
  v9 := Try.zeroValue9
  t20 := Try.underlying20
  a20 := Try.isAgg20
  z20 := Try.sizeOf20
  v20 := Try.zeroValue20
  t37 := Try.underlying67
  a37 := Try.isAgg67
  z37 := Try.sizeOf67
  v37 := Try.zeroValue67
  t70 := Try.underlying107
  a70 := Try.isAgg107
  z70 := Try.sizeOf107
  v70 := Try.zeroValue107
  t72 := Try.underlying109
  a72 := Try.isAgg109
  z72 := Try.sizeOf109
  v72 := Try.zeroValue109
  t75 := Try.underlying111
  a75 := Try.isAgg111
  z75 := Try.sizeOf111
  v75 := Try.zeroValue111
  t164 := Try.underlying142
  a164 := Try.isAgg142
  z164 := Try.sizeOf142
  v164 := Try.zeroValue142 }
def Try.lays169_ren : Go.Shelf.Ren := ⟨fun | 169 => 78 | n => n, fun | 0 => 0 | 3 => 3 | 5 => 5 | 9 => 9 | 37 => 67 | 70 => 107 | 72 => 109 | 127 => 137 | n => n, fun | n => n⟩
theorem Try.lays169 : Go.Proofs.Lays.n169 Try.prog Try.lays169_ren := {
  mixed := by kernel_rfl
  f169 := Try.func78.trans (congrArg some (by kernel_rfl))
  t0 := Try.underlying0
  a0 := Try.isAgg0
  z0 := Try.sizeOf0
  v0 := Try.zeroValue0
  t3 := Try.underlying3
  a3 := Try.isAgg3
  z3 := Try.sizeOf3
  v3 := Try.zeroValue3
  t9 := Try.underlying9
  a9 := Try.isAgg9
  z9 := Try.sizeOf9
  v9 := Try.zeroValue9
  t37 := Try.underlying67
  a37 := Try.isAgg67
  z37 := Try.sizeOf67
  v37 := Try.zeroValue67
  t70 := Try.underlying107
  a70 := Try.isAgg107
  z70 := Try.sizeOf107
  v70 := Try.zeroValue107
  t72 := Try.underlying109
  a72 := Try.isAgg109
  z72 := Try.sizeOf109
  v72 := Try.zeroValue109
  t127 := Try.underlying137
  a127 := Try.isAgg137
  z127 := Try.sizeOf137
  v127 := Try.zeroValue137 }
theorem Try.builderExtra166 : Builder.Extra Try.prog Try.lays166_ren := {
  sizeBuilder := by kernel_rfl
  liesBuilder := by kernel_rfl
  t5 := Try.underlying5
  a5 := Try.isAgg5
  z5 := Try.sizeOf5
  v5 := Try.zeroValue5
  infoByte := by kernel_rfl
  cellsByte := by kernel_rfl
  sizeByte := by kernel_rfl
  neB5 := by decide }
theorem Try.builderExtra167 : Builder.Extra Try.prog Try.lays167_ren := {
  sizeBuilder := by kernel_rfl
  liesBuilder := by kernel_rfl
  t5 := Try.underlying5
  a5 := Try.isAgg5
  z5 := Try.sizeOf5
  v5 := Try.zeroValue5
  infoByte := by kernel_rfl
  cellsByte := by kernel_rfl
  sizeByte := by kernel_rfl
  neB5 := by decide }
theorem Try.builderExtra169 : Builder.Extra Try.prog Try.lays169_ren := {
  sizeBuilder := by kernel_rfl
  liesBuilder := by kernel_rfl
  t5 := Try.underlying5
  a5 := Try.isAgg5
  z5 := Try.sizeOf5
  v5 := Try.zeroValue5
  infoByte := by kernel_rfl
  cellsByte := by kernel_rfl
  sizeByte := by kernel_rfl
  neB5 := by decide }
end Go.Proofs
namespace Go.Proofs.Ythbpkmmnoeikoaa
open Go.RowKit

/-- block b is a strings.Builder of the call's own that holds the bytes l -/
def IsB (B b : Nat) (l : List UInt8) (w : World) : Prop := Lib.IsBuilder 109 5 B b (Lib.byteCells l) w

theorem IsB.new (w : World) : IsB w.heap.size w.heap.size [] (w.alloc (.cells #[.pointer none, .slice none 0 0] 109)) := Lib.fresh_isBuilder _ _ w
theorem BAt.below {T e : TypeId} {B b : Nat} {p : Value} {bs : List Value} {w w' : World} (h : Lib.BuilderAt T e B b p bs w) (hb : Below w.heap.size w w') : Lib.BuilderAt T e B b p bs w' := by
  have hlt := h.lt
  obtain ⟨hB, v, hc, hown, hne⟩ := h
  refine ⟨hB, v, (hb.block b hlt).trans hc, hown.kept (row := none) ⟨hb.os, hb.tape, hb.output, hb.size, fun k hk _ => hb.block k hk⟩ ?_, hne⟩
  cases hv : v.ownBlock
  · exact .inl rfl
  · exact .inr (by simp)
theorem IsB.below {B b : Nat} {l : List UInt8} {w w' : World} (h : IsB B b l w) (hb : Below w.heap.size w w') : IsB B b l w' :=
  h.elim (fun h => .inl (BAt.below h hb)) (fun h => .inr (BAt.below h hb))
theorem IsB.alloc {B b : Nat} {l : List UInt8} {w : World} (h : IsB B b l w) (o : Obj) : IsB B b l (w.alloc o) := h.below ((Below.refl _ w).alloc (Nat.le_refl _) o)
theorem IsB.drew {B b : Nat} {l : List UInt8} {w : World} (h : IsB B b l w) : IsB B b l w.drew := h.below (Below.refl _ w).drew
theorem IsB.lt {B b : Nat} {l : List UInt8} {w : World} (h : IsB B b l w) : B ≤ b ∧ b < w.heap.size := h.elim (fun h => ⟨h.1, h.lt⟩) (fun h => ⟨h.1, h.lt⟩)

theorem byteCells_length (l : List UInt8) : (Lib.byteCells l).length = l.length := by simp [Lib.byteCells]
theorem byteCells_snoc (l : List UInt8) (c : UInt8) : Lib.byteCells l ++ [.int .u8 (c.toNat : Int)] = Lib.byteCells (l ++ [c]) := by simp [Lib.byteCells]
theorem byteCells_str (l : List UInt8) (s : ByteArray) : Lib.byteCells l ++ Lib.strCells s = Lib.byteCells (l ++ s.data.toList) := by simp [Lib.byteCells, Lib.strCells]

theorem wb_any (B b : Nat) (l : List UInt8) (c : UInt8) (w : World) (h : IsB B b l w) (hlen : l.length ≤ 70368744177664) :
    Calls Try.prog 76 #[.pointer (some ⟨b, 0, none⟩), .int .u8 (c.toNat : Int)] w fun e w' => e = .returned .nilIface ∧ IsB B b (l ++ [c]) w' ∧ Below B w w' := by
  have hlt := h.lt
  refine (Any.Builder_WriteByte Try.lays167 Try.builderExtra167 B b _ (c.toNat : Int) w h (by rw [byteCells_length]; omega) (by omega)).mono ?_
  rintro e w' ⟨rfl, h1, h2⟩
  rw [byteCells_snoc] at h1
  exact ⟨rfl, .inr h1, h2⟩
theorem ws_any (B b : Nat) (l : List UInt8) (s : ByteArray) (w : World) (h : IsB B b l w) (hlen : l.length ≤ 70368744177664) (hs : s.size ≤ 70368744177664) :
    Calls Try.prog 77 #[.pointer (some ⟨b, 0, none⟩), .string s] w fun e w' => e = .returned (.tuple #[.int .i64 s.size, .nilIface]) ∧ IsB B b (l ++ s.data.toList) w' ∧ Below B w w' := by
  have hlt := h.lt
  refine (Any.Builder_WriteString Try.lays166 Try.builderExtra166 B b _ s w h (by rw [byteCells_length]; omega) (by omega)).mono ?_
  rintro e w' ⟨rfl, h1, h2⟩
  rw [byteCells_str] at h1
  exact ⟨rfl, .inr h1, h2⟩
theorem bstr_any (B b : Nat) (l : List UInt8) (w : World) (h : IsB B b l w) :
    Calls Try.prog 78 #[.pointer (some ⟨b, 0, none⟩)] w fun e w' => e = .returned (.string ⟨l.toArray⟩) ∧ Below B w w' := by
  have hlt := h.lt
  exact Any.Builder_String_any Try.lays169 Try.builderExtra169 B b l w h (by omega)

end Go.Proofs.Ythbpkmmnoeikoaa
