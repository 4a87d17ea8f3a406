/-
  Several texts in one, each with its own head below. Conditions: as each says.
-/
import Derived.Shelf.Strings.Builder1
import Derived.Shelf.Strings.BuilderF
import Derived.Shelf.Strings.BuilderK
import Derived.Test.YthbpkmmnoeikoaaProg
import Derived.Test.YthbpkmmnoeikoaaJm03
import Derived.Test.YthbpkmmnoeikoaaJm01
import Derived.Lib.IndexBytes
/-
  The library's contracts for strings.Builder, laid at this program's numbers, and said of lists of bytes. No condition beside each contract's own.
-/
namespace Go.Proofs
open Go.Shelf
def Try.lays240_ren : Go.Shelf.Ren := ⟨fun | 240 => 99 | 276 => 111 | n => n, fun | 0 => 0 | 4 => 4 | 9 => 9 | 20 => 20 | 37 => 67 | 70 => 107 | 72 => 109 | 164 => 142 | n => n, fun | n => n⟩
theorem Try.lays240 : Go.Proofs.Lays.n240 Try.prog Try.lays240_ren := {
  mixed := by kernel_rfl
  f240 := Try.func99.trans (congrArg some (by kernel_rfl))
  f276 := Try.func111.trans (congrArg some (by kernel_rfl))
  t0 := Try.underlying0
  a0 := Try.isAgg0
  z0 := Try.sizeOf0
  v0 := Try.zeroValue0
  t4 := Try.underlying4
  a4 := Try.isAgg4
  z4 := Try.sizeOf4
  v4 := Try.zeroValue4
  t9 := Try.underlying9
  a9 := Try.isAgg9
  z9 := Try.sizeOf9
  v9 := Try.zeroValue9
  t20 := Try.underlying20
  a20 := Try.isAgg20
  z20 := Try.sizeOf20
  v20 := Try.zeroValue20
  t70 := Try.underlying107
  a70 := Try.isAgg107
  z70 := Try.sizeOf107
  v70 := Try.zeroValue107
  t72 := Try.underlying109
  a72 := Try.isAgg109
  z72 := Try.sizeOf109
  v72 := Try.zeroValue109
  t164 := Try.underlying142
  a164 := Try.isAgg142
  z164 := Try.sizeOf142
  v164 := Try.zeroValue142 }
def Try.lays166_ren : Go.Shelf.Ren := ⟨fun | 166 => 77 | 240 => 99 | 276 => 111 | n => n, fun | 0 => 0 | 3 => 3 | 4 => 4 | 5 => 5 | 9 => 9 | 20 => 20 | 37 => 67 | 70 => 107 | 72 => 109 | 75 => 111 | 80 => 116 | 164 => 142 | n => n, fun | n => n⟩
theorem Try.lays166 : Go.Proofs.Lays.n166 Try.prog Try.lays166_ren := {
  mixed := by kernel_rfl
  f166 := Try.func77.trans (congrArg some (by kernel_rfl))
  f240 := Try.func99.trans (congrArg some (by kernel_rfl))
  f276 := Try.func111.trans (congrArg some (by kernel_rfl))
  t0 := Try.underlying0
  a0 := Try.isAgg0
  z0 := Try.sizeOf0
  v0 := Try.zeroValue0
  t3 := Try.underlying3
  a3 := Try.isAgg3
  z3 := Try.sizeOf3
  v3 := Try.zeroValue3
  t4 := Try.underlying4
  a4 := Try.isAgg4
  z4 := Try.sizeOf4
  v4 := Try.zeroValue4
  t9 := Try.underlying9
  a9 := Try.isAgg9
  z9 := Try.sizeOf9
  v9 := Try.zeroValue9
  t20 := Try.underlying20
  a20 := Try.isAgg20
  z20 := Try.sizeOf20
  v20 := Try.zeroValue20
  t37 := Try.underlying67
  a37 := Try.isAgg67
  z37 := Try.sizeOf67
  v37 := Try.zeroValue67
  t70 := Try.underlying107
  a70 := Try.isAgg107
  z70 := Try.sizeOf107
  v70 := Try.zeroValue107
  t72 := Try.underlying109
  a72 := Try.isAgg109
  z72 := Try.sizeOf109
  v72 := Try.zeroValue109
  t75 := Try.underlying111
  a75 := Try.isAgg111
  z75 := Try.sizeOf111
  v75 := Try.zeroValue111
  t164 := Try.underlying142
  a164 := Try.isAgg142
  z164 := Try.sizeOf142
  v164 := Try.zeroValue142 }
def Try.lays167_ren : Go.Shelf.Ren := ⟨fun | 167 => 76 | 240 => 99 | 276 => 111 | n => n, fun | 0 => 0 | 4 => 4 | 5 => 5 | 9 => 9 | 20 => 20 | 37 => 67 | 70 => 107 | 72 => 109 | 75 => 111 | 80 => 116 | 164 => 142 | n => n, fun | n => n⟩
theorem Try.lays167 : Go.Proofs.Lays.n167 Try.prog Try.lays167_ren := {
  mixed := by kernel_rfl
  f167 := Try.func76.trans (congrArg some (by kernel_rfl))
  f240 := Try.func99.trans (congrArg some (by kernel_rfl))
  f276 := Try.func111.trans (congrArg some (by kernel_rfl))
  t0 := Try.underlying0
  a0 := Try.isAgg0
  z0 := Try.sizeOf0
  v0 := Try.zeroValue0
  t4 := Try.underlying4
  a4 := Try.isAgg4
  z4 := Try.sizeOf4
  v4 := Try.zeroValue4
  t5 := Try.underlying5
  a5 := Try.isAgg5
  z5 := Try.sizeOf5
  v5 := Try.zeroValue5
  t9 := Try.underlying9
  a9 := Try.isAgg9
  z9 := Try.sizeOf9
  v9 := Try.zeroValue9
  t20 := Try.underlying20
  a20 := Try.isAgg20
  z20 := Try.sizeOf20
  v20 := Try.zeroValue20
  t37 := Try.underlying67
  a37 := Try.isAgg67
  z37 := Try.sizeOf67
  v37 := Try.zeroValue67
  t70 := Try.underlying107
  a70 := Try.isAgg107
  z70 := Try.sizeOf107
  v70 := Try.zeroValue107
  t72 := Try.underlying109
  a72 := Try.isAgg109
  z72 := Try.sizeOf109
  v72 := Try.zeroValue109
  t75 := Try.underlying111
  a75 := Try.isAgg111
  z75 := Try.sizeOf111
  v75 := Try.zeroValue111
  t164 := Try.underlying142
  a164 := Try.isAgg142
  z164 := Try.sizeOf142
  v164 := Try.zeroValue142 }
def Try.lays169_ren : Go.Shelf.Ren := ⟨fun | 169 => 78 | n => n, fun | 0 => 0 | 3 => 3 | 5 => 5 | 9 => 9 | 37 => 67 | 70 => 107 | 72 => 109 | 127 => 137 | n => n, fun | n => n⟩
theorem Try.lays169 : Go.Proofs.Lays.n169 Try.prog Try.lays169_ren := {
  mixed := by kernel_rfl
  f169 := Try.func78.trans (congrArg some (by kernel_rfl))
  t0 := Try.underlying0
  a0 := Try.isAgg0
  z0 := Try.sizeOf0
  v0 := Try.zeroValue0
  t3 := Try.underlying3
  a3 := Try.isAgg3
  z3 := Try.sizeOf3
  v3 := Try.zeroValue3
  t9 := Try.underlying9
  a9 := Try.isAgg9
  z9 := Try.sizeOf9
  v9 := Try.zeroValue9
  t37 := Try.underlying67
  a37 := Try.isAgg67
  z37 := Try.sizeOf67
  v37 := Try.zeroValue67
  t70 := Try.underlying107
  a70 := Try.isAgg107
  z70 := Try.sizeOf107
  v70 := Try.zeroValue107
  t72 := Try.underlying109
  a72 := Try.isAgg109
  z72 := Try.sizeOf109
  v72 := Try.zeroValue109
  t127 := Try.underlying137
  a127 := Try.isAgg137
  z127 := Try.sizeOf137
  v127 := Try.zeroValue137 }
theorem Try.builderExtra166 : Builder.Extra Try.prog Try.lays166_ren := {
  sizeBuilder := by kernel_rfl
  liesBuilder := by kernel_rfl
  t5 := Try.underlying5
  a5 := Try.isAgg5
  z5 := Try.sizeOf5
  v5 := Try.zeroValue5
  infoByte := by kernel_rfl
  cellsByte := by kernel_rfl
  sizeByte := by kernel_rfl
  neB5 := by decide }
theorem Try.builderExtra167 : Builder.Extra Try.prog Try.lays167_ren := {
  sizeBuilder := by kernel_rfl
  liesBuilder := by kernel_rfl
  t5 := Try.underlying5
  a5 := Try.isAgg5
  z5 := Try.sizeOf5
  v5 := Try.zeroValue5
  infoByte := by kernel_rfl
  cellsByte := by kernel_rfl
  sizeByte := by kernel_rfl
  neB5 := by decide }
theorem Try.builderExtra169 : Builder.Extra Try.prog Try.lays169_ren := {
  sizeBuilder := by kernel_rfl
  liesBuilder := by kernel_rfl
  t5 := Try.underlying5
  a5 := Try.isAgg5
  z5 := Try.sizeOf5
  v5 := Try.zeroValue5
  infoByte := by kernel_rfl
  cellsByte := by kernel_rfl
  sizeByte := by kernel_rfl
  neB5 := by decide }
end Go.Proofs
namespace Go.Proofs.Ythbpkmmnoeikoaa
open Go.RowKit

/-- block b is a strings.Builder of the call's own that holds the bytes l -/
def IsB (B b : Nat) (l : List UInt8) (w : World) : Prop := Lib.IsBuilder 109 5 B b (Lib.byteCells l) w

theorem IsB.new (w : World) : IsB w.heap.size w.heap.size [] (w.alloc (.cells #[.pointer none, .slice none 0 0] 109)) := Lib.fresh_isBuilder _ _ w
theorem BAt.below {T e : TypeId} {B b : Nat} {p : Value} {bs : List Value} {w w' : World} (h : Lib.BuilderAt T e B b p bs w) (hb : Below w.heap.size w w') : Lib.BuilderAt T e B b p bs w' := by
  have hlt := h.lt
  obtain ⟨hB, v, hc, hown, hne⟩ := h
  refine ⟨hB, v, (hb.block b hlt).trans hc, hown.kept (row := none) ⟨hb.os, hb.tape, hb.output, hb.size, fun k hk _ => hb.block k hk⟩ ?_, hne⟩
  cases hv : v.ownBlock
  · exact .inl rfl
  · exact .inr (by simp)
theorem IsB.below {B b : Nat} {l : List UInt8} {w w' : World} (h : IsB B b l w) (hb : Below w.heap.size w w') : IsB B b l w' :=
  h.elim (fun h => .inl (BAt.below h hb)) (fun h => .inr (BAt.below h hb))
theorem IsB.alloc {B b : Nat} {l : List UInt8} {w : World} (h : IsB B b l w) (o : Obj) : IsB B b l (w.alloc o) := h.below ((Below.refl _ w).alloc (Nat.le_refl _) o)
theorem IsB.drew {B b : Nat} {l : List UInt8} {w : World} (h : IsB B b l w) : IsB B b l w.drew := h.below (Below.refl _ w).drew
theorem IsB.lt {B b : Nat} {l : List UInt8} {w : World} (h : IsB B b l w) : B ≤ b ∧ b < w.heap.size := h.elim (fun h => ⟨h.1, h.lt⟩) (fun h => ⟨h.1, h.lt⟩)

theorem byteCells_length (l : List UInt8) : (Lib.byteCells l).length = l.length := by simp [Lib.byteCells]
theorem byteCells_snoc (l : List UInt8) (c : UInt8) : Lib.byteCells l ++ [.int .u8 (c.toNat : Int)] = Lib.byteCells (l ++ [c]) := by simp [Lib.byteCells]
theorem byteCells_str (l : List UInt8) (s : ByteArray) : Lib.byteCells l ++ Lib.strCells s = Lib.byteCells (l ++ s.data.toList) := by simp [Lib.byteCells, Lib.strCells]

theorem wb_any (B b : Nat) (l : List UInt8) (c : UInt8) (w : World) (h : IsB B b l w) (hlen : l.length ≤ 70368744177664) :
    Calls Try.prog 76 #[.pointer (some ⟨b, 0, none⟩), .int .u8 (c.toNat : Int)] w fun e w' => e = .returned .nilIface ∧ IsB B b (l ++ [c]) w' ∧ Below B w w' := by
  have hlt := h.lt
  refine (Any.Builder_WriteByte Try.lays167 Try.builderExtra167 B b _ (c.toNat : Int) w h (by rw [byteCells_length]; omega) (by omega)).mono ?_
  rintro e w' ⟨rfl, h1, h2⟩
  rw [byteCells_snoc] at h1
  exact ⟨rfl, .inr h1, h2⟩
theorem ws_any (B b : Nat) (l : List UInt8) (s : ByteArray) (w : World) (h : IsB B b l w) (hlen : l.length ≤ 70368744177664) (hs : s.size ≤ 70368744177664) :
    Calls Try.prog 77 #[.pointer (some ⟨b, 0, none⟩), .string s] w fun e w' => e = .returned (.tuple #[.int .i64 s.size, .nilIface]) ∧ IsB B b (l ++ s.data.toList) w' ∧ Below B w w' := by
  have hlt := h.lt
  refine (Any.Builder_WriteString Try.lays166 Try.builderExtra166 B b _ s w h (by rw [byteCells_length]; omega) (by omega)).mono ?_
  rintro e w' ⟨rfl, h1, h2⟩
  rw [byteCells_str] at h1
  exact ⟨rfl, .inr h1, h2⟩
theorem bstr_any (B b : Nat) (l : List UInt8) (w : World) (h : IsB B b l w) :
    Calls Try.prog 78 #[.pointer (some ⟨b, 0, none⟩)] w fun e w' => e = .returned (.string ⟨l.toArray⟩) ∧ Below B w w' := by
  have hlt := h.lt
  exact Any.Builder_String_any Try.lays169 Try.builderExtra169 B b l w h (by omega)

end Go.Proofs.Ythbpkmmnoeikoaa

/-
  token.text: what stands in quotes. Condition: the text is shorter than 2^32 bytes.
-/
namespace Go.Proofs.Ythbpkmmnoeikoaa
open Go Go.RowKit
set_option linter.unusedVariables false
set_option linter.unusedSimpArgs false

theorem put_le (c : Nat) : (Uf.put c).length ≤ 4 := by
  rw [Uf.put_len]
  unfold Uf.long
  split
  · omega
  · split
    · omega
    · split
      · omega
      · split <;> omega
theorem uesc_len {l : List UInt8} {p : List UInt8 × Nat} (h : Tk.uesc l = some p) : 6 ≤ p.2 ∧ p.2 ≤ l.length ∧ p.1.length ≤ 4 := by
  unfold Tk.uesc at h
  cases hu : Tk.unit l with
  | none => rw [hu] at h; cases h
  | some c =>
    rw [hu] at h
    dsimp only at h
    have hb := (unit_bound hu).2
    split at h
    · cases h; exact ⟨Nat.le_refl _, hb, put_le _⟩
    · split at h
      · cases h
      · cases hd : Tk.unit (l.drop 6) with
        | none => rw [hd] at h; cases h
        | some d =>
          rw [hd] at h
          dsimp only at h
          have hb2 := (unit_bound hd).2
          rw [List.length_drop] at hb2
          split at h
          · have h' := Option.some.inj h
            have hpp := put_le (65536 + (c - 55296) * 1024 + (d - 56320))
            generalize Uf.put (65536 + (c - 55296) * 1024 + (d - 56320)) = pp at *
            rw [← h']
            exact ⟨by dsimp only; omega, by dsimp only; omega, hpp⟩
          · cases h
theorem esc_len {l : List UInt8} {p : List UInt8 × Nat} (h : Tk.esc l = some p) : 1 ≤ p.2 ∧ p.2 ≤ l.length ∧ p.1.length ≤ p.2 := by
  unfold Tk.esc at h
  split at h
  · have := uesc_len h; omega
  · rename_i c t ht
    split at h
    · cases h
      refine ⟨by dsimp only; omega, ?_, by simp⟩
      have : l.tail.length = t.length + 1 := by rw [ht]; rfl
      rw [List.length_tail] at this
      dsimp only; omega
    · have := uesc_len h; omega
theorem ext_take (s : ByteArray) (k n : Nat) : (s.extract k (k + n)).data.toList = (s.data.toList.drop k).take n := by
  rw [ByteArray.data_extract, Array.toList_extract, List.extract_eq_take_drop]
  congr 1; omega

/-- a place within a text for one behind k bytes -/
def ab (k : Nat) (p : List UInt8 × Nat × Bool) : List UInt8 × Nat × Bool := (p.1, k + p.2.1, p.2.2)
theorem ab_sh (k n : Nat) (p : List UInt8 × Nat × Bool) : ab k (Tk.sh n p) = ab (k + n) p := by
  unfold ab Tk.sh
  dsimp only
  rw [show k + (p.2.1 + n) = k + n + p.2.1 by omega]
def txtV (p : List UInt8 × Nat × Bool) : Value := .tuple #[str p.1, .int .i64 (p.2.1 : Int), .bool p.2.2]

def TxR (s : ByteArray) (G : List UInt8 × Nat × Bool) (w0 : World) (a : Value) (w : World) : Prop :=
  ∃ (k f : Nat) (acc : List UInt8), k ≤ s.size ∧ s.size - k < f + 1 ∧ acc.length ≤ k ∧ a = .int .i64 (k : Int) ∧ IsB w0.heap.size w0.heap.size acc w ∧ Below w0.heap.size w0 w ∧ Hid (G = ab k (Tk.txt (f + 1) (s.data.toList.drop k) acc))

set_option maxRecDepth 100000 in
set_option maxHeartbeats 4000000 in
theorem text_any (s : ByteArray) (a0 : Nat) (w : World) (hs : s.size ≤ 4294967280) (ha : a0 ≤ s.size) :
    Calls Try.prog 67 #[.string s, .int .i64 (a0 : Int)] w fun e w' => e = .returned (txtV (ab a0 (Tk.txt (s.size - a0 + 1) (s.data.toList.drop a0) []))) ∧ Below w.heap.size w w' := by
  obtain ⟨G, hG⟩ : ∃ G, G = ab a0 (Tk.txt (s.size - a0 + 1) (s.data.toList.drop a0) []) := ⟨_, rfl⟩
  rw [← hG]
  have HG := Lib.hid hG
  clear hG
  have hcv := cv_run s
  go_enter Try.func67, Try.ntmps67
  go_wp2
  go_loopw [1] (TxR s G w) (fun i _ => s.size - (intOf i).toNat)
  case atStart => exact ⟨a0, s.size - a0, [], ha, by omega, by simp, by go_num, IsB.new w, (Below.refl _ w).alloc (Nat.le_refl _) _, HG⟩
  case round =>
    obtain ⟨k, f, acc, hk, hf, hacc, rfl, hB, hbl, HX⟩ := hrel
    clear HG
    have hsz := hbl.size
    by_cases hlt : k < s.size
    · have tl : decide ((k : Int) < (s.size : Int)) = true := decide_eq_true (by omega)
      have hd : s.data.toList.drop k = s[k] :: s.data.toList.drop (k + 1) := (List.getElem_cons_drop (by rw [len_data]; exact hlt)).symm
      have hx := HX.out
      rw [hd, Tk.txt] at hx
      have hsx := (s[k]).toNat_lt
      by_cases h34 : s[k] = 34
      · rw [if_pos h34] at hx
        have t34 : ((s[k].toNat : Int) != 34) = false := by rw [h34]; rfl
        have tke : ((k : Int) == (s.size : Int)) = false := beq_eq_false_iff_ne.2 (by omega)
        obtain rfl := hx
        clear HX hd h34
        go_wp2_with (go_at_call 78; refine (bstr_any _ _ _ _ hB).mono ?_; rintro e w4 ⟨rfl, hb4⟩)
        exact bodyPost_ret (v := txtV (ab k (acc, 1, true))) (by simp [results, Try.results67, go_sem, txtV, ab, bs]) rfl ⟨rfl, hbl.trans (hb4.mono (by omega))⟩
      · rw [if_neg h34] at hx
        have t34 : ((s[k].toNat : Int) != 34) = true := by rw [bne_iff_ne]; intro e; exact h34 (UInt8.toNat_inj.1 (by have : (34 : UInt8).toNat = 34 := rfl; omega))
        by_cases h92 : s[k] = 92
        · rw [if_pos h92, ← hd] at hx
          have t92 : ((s[k].toNat : Int) == 92) = true := by rw [h92]; rfl
          have HE := Lib.hid (fun W => escape_any (s.extract k s.size) W (by rw [ByteArray.size_extract]; omega))
          rw [drop_ext] at HE
          cases he : Tk.esc (s.data.toList.drop k) with
          | none =>
            rw [he] at HE hx
            obtain rfl := hx
            unfold escV at HE
            clear HX hd h34 h92 he
            go_wp2_with (go_at_call 91; refine (HE.out _).mono ?_; rintro e w2 ⟨rfl, hb2⟩)
            exact bodyPost_ret (v := txtV (ab k ([], 0, false))) (by simp [results, Try.results67, go_sem, txtV, ab, bs]) rfl ⟨rfl, hbl.trans (hb2.mono hsz)⟩
          | some p =>
            rw [he] at HE hx
            obtain ⟨e1, e2, e3⟩ := esc_len he
            rw [List.length_drop, len_data] at e2
            dsimp only at hx
            rw [ab_sh, List.drop_drop] at hx
            unfold escV at HE
            have te : ((p.2 : Int) == 0) = false := beq_eq_false_iff_ne.2 (by omega)
            have HY : Hid (G = ab (k + p.2) (Tk.txt (f - 1 + 1) (s.data.toList.drop (k + p.2)) (acc ++ p.1))) := by
              unfold Hid; rw [Nat.sub_add_cancel (by omega)]; exact hx
            have zp : (bs p.1).size = p.1.length := bs_size _
            clear HX hd h34 h92 he hx
            go_wp2_with (first
              | (go_at_call 91; refine (HE.out _).mono ?_; rintro e w2 ⟨rfl, hb2⟩; have hB2 := hB.below hb2)
              | (go_at_call 77; refine (ws_any _ _ _ (bs p.1) _ hB2 (by omega) (by omega)).mono ?_; rintro e w3 ⟨rfl, hB3, hb3⟩))
            go_roundw
            case rel => exact ⟨k + p.2, f - 1, acc ++ p.1, by omega, by omega, by simp; omega, by go_num, hB3, (hbl.trans (hb2.mono hsz)).trans hb3, HY⟩
            case measure => simp [intOf]; omega
        · rw [if_neg h92, ← hd] at hx
          have t92 : ((s[k].toNat : Int) == 92) = false := beq_eq_false_iff_ne.2 (fun e => h92 (UInt8.toNat_inj.1 (by have : (92 : UInt8).toNat = 92 := rfl; omega)))
          have hga := get_any _ s.data.toList k _ (cv_bytes s wr (by unfold maxLen; omega)) (by rw [len_data]; omega) (by rw [len_data]; omega)
          have hb1 := cv_below s wr
          cases hg : Uf.get (s.data.toList.drop k) with
          | none =>
            rw [hg] at hga hx
            obtain rfl := hx
            unfold getV at hga
            clear HX hd h34 h92 hg
            go_wp2_with (go_at_call 92; refine hga.mono ?_; rintro e w2 ⟨rfl, rfl⟩)
            exact bodyPost_ret (v := txtV (ab k ([], 0, false))) (by simp [results, Try.results67, go_sem, txtV, ab, bs]) rfl ⟨rfl, hbl.trans (hb1.mono hsz)⟩
          | some p =>
            rw [hg] at hga hx
            obtain ⟨g1, g2, g3, g4⟩ := get_len hg
            rw [List.length_drop, len_data] at g3
            dsimp only at hx
            unfold getV at hga
            by_cases h32 : s[k].toNat < 32
            · rw [if_pos h32] at hx
              have t32 : decide ((s[k].toNat : Int) < 32) = true := decide_eq_true (by omega)
              obtain rfl := hx
              clear HX hd h34 h92 hg
              go_wp2_with (go_at_call 92; refine hga.mono ?_; rintro e w2 ⟨rfl, rfl⟩)
              exact bodyPost_ret (v := txtV (ab k ([], 0, false))) (by simp [results, Try.results67, go_sem, txtV, ab, bs]) rfl ⟨rfl, hbl.trans (hb1.mono hsz)⟩
            · rw [if_neg h32, ab_sh, List.drop_drop] at hx
              have t32 : decide ((s[k].toNat : Int) < 32) = false := decide_eq_false (by omega)
              have HY : Hid (G = ab (k + p.2) (Tk.txt (f - 1 + 1) (s.data.toList.drop (k + p.2)) (acc ++ (s.extract k (k + p.2)).data.toList))) := by
                unfold Hid; rw [Nat.sub_add_cancel (by omega), ext_take]; exact hx
              have zp : (s.extract k (k + p.2)).size = p.2 := by rw [ByteArray.size_extract]; omega
              have i1 : (k : Int) ≤ (k : Int) + (p.2 : Int) := by omega
              have i2 : (k : Int) + (p.2 : Int) ≤ (s.size : Int) := by omega
              have hBc := hB.below hb1
              clear HX hd h34 h92 hg hx
              go_wp2_with (first
                | (go_at_call 92; refine hga.mono ?_; rintro e w2 ⟨rfl, rfl⟩)
                | (go_at_call 77; refine (ws_any _ _ _ (s.extract k (k + p.2)) _ hBc (by omega) (by omega)).mono ?_; rintro e w3 ⟨rfl, hB3, hb3⟩))
              go_roundw
              case rel => exact ⟨k + p.2, f - 1, acc ++ (s.extract k (k + p.2)).data.toList, by omega, by omega, by rw [List.length_append, len_data]; omega, by go_num, hB3, (hbl.trans (hb1.mono hsz)).trans hb3, HY⟩
              case measure => simp [intOf]; omega
    · have tl : decide ((k : Int) < (s.size : Int)) = false := decide_eq_false (by omega)
      have tke : ((k : Int) == (s.size : Int)) = true := beq_iff_eq.2 (by omega)
      have hd : s.data.toList.drop k = [] := List.drop_eq_nil_of_le (by rw [len_data]; omega)
      have hx := HX.out
      rw [hd, Tk.txt] at hx
      obtain rfl := hx
      clear HX hd
      go_wp2_with fail
      exact bodyPost_ret (v := txtV (ab k ([], 0, false))) (by simp [results, Try.results67, go_sem, txtV, ab, bs]) rfl ⟨rfl, hbl⟩

end Go.Proofs.Ythbpkmmnoeikoaa

/-
  num.run: how many digits stand at a place of a text. Condition: the place is none behind the text's end.
-/
namespace Go.Proofs.Ythbpkmmnoeikoaa
open Go.RowKit

theorem run_le : ∀ l : List UInt8, Nm.run l ≤ l.length
  | [] => Nat.le_refl _
  | c :: l => by
    have := run_le l
    unfold Nm.run
    split <;> simp <;> omega

theorem drop_cons (s : ByteArray) (k : Nat) (h : k < s.size) : s.data.toList.drop k = s[k] :: s.data.toList.drop (k + 1) := by
  rw [List.drop_eq_getElem_cons (by rw [len_data]; exact h)]; rfl

theorem run_at (s : ByteArray) (k : Nat) (h : k < s.size) : Nm.run (s.data.toList.drop k) = if Nm.dig s[k] then Nm.run (s.data.toList.drop (k + 1)) + 1 else 0 := by
  rw [drop_cons s k h]; rfl
theorem run_end (s : ByteArray) (k : Nat) (h : s.size ≤ k) : Nm.run (s.data.toList.drop k) = 0 := by
  rw [List.drop_eq_nil_of_le (by rw [len_data]; exact h)]; rfl

set_option maxHeartbeats 400000 in
theorem run_any (s : ByteArray) (p : Int) (w : World) (h0 : 0 ≤ p) (hp : p ≤ s.size) (hs : s.size ≤ 4611686018427387904) :
    Calls Try.prog 43 #[.string s, .int .i64 p] w fun e w' => e = .returned (.int .i64 (Nm.run (s.data.toList.drop p.toNat))) ∧ w = w' := by
  obtain ⟨at0, rfl⟩ := Int.eq_ofNat_of_zero_le h0
  rw [Int.toNat_natCast]
  have hp' : at0 ≤ s.size := by omega
  clear hp h0
  go_enter Try.func43, Try.ntmps43
  go_wp2
  go_loop [5] (fun n => ∃ k : Nat, at0 + k ≤ s.size ∧ n = .int .i64 k ∧ Hid (Nm.run (s.data.toList.drop at0) = k + Nm.run (s.data.toList.drop (at0 + k)))) (fun n => s.size - (intOf n).toNat)
  case atStart => exact ⟨0, by omega, rfl, by unfold Hid; simp⟩
  case round =>
    obtain ⟨k, hk, rfl, HR⟩ := hrel
    by_cases hlt : at0 + k < s.size
    · by_cases h48 : 48 ≤ (s[at0 + k].toNat : Int)
      · by_cases h57 : (s[at0 + k].toNat : Int) ≤ 57
        · go_wp2
          go_round
          case rel =>
            refine ⟨k + 1, by omega, by go_num, ?_⟩
            unfold Hid
            have hd : Nm.dig s[at0 + k] = true := by unfold Nm.dig; simp; omega
            rw [HR.out, run_at s (at0 + k) hlt, if_pos hd, Nat.add_assoc at0 k 1]; omega
          case measure => simp [intOf]; omega
        · go_wp2
          go_ret
          have hd : Nm.dig s[at0 + k] = false := by unfold Nm.dig; simp; omega
          exact ⟨ret_i (by rw [HR.out, run_at s (at0 + k) hlt, hd]; simp), rfl⟩
      · go_wp2
        go_ret
        have hd : Nm.dig s[at0 + k] = false := by unfold Nm.dig; simp; omega
        exact ⟨ret_i (by rw [HR.out, run_at s (at0 + k) hlt, hd]; simp), rfl⟩
    · go_wp2
      go_ret
      exact ⟨ret_i (by rw [HR.out, run_end s (at0 + k) (by omega)]; simp), rfl⟩

end Go.Proofs.Ythbpkmmnoeikoaa

/-
  num.Parse: the number of a text, or the error. Condition: the text is no longer than 2^62 bytes.
-/
namespace Go.Proofs.Ythbpkmmnoeikoaa
open Go.RowKit

theorem run_all : ∀ l : List UInt8, Nm.run l = l.length ↔ l.all Nm.dig = true
  | [] => by simp [Nm.run]
  | c :: l => by
    have ih := run_all l
    unfold Nm.run
    by_cases h : Nm.dig c = true
    · simp only [h, if_true, List.length_cons, List.all_cons, Bool.true_and]
      rw [← ih]; omega
    · simp [h]

theorem run0 (s : ByteArray) (r : Nat) (hr : Hid (r = Nm.run s.data.toList)) (w : World) (hs : s.size ≤ 4611686018427387904) :
    Calls Try.prog 43 #[.string s, .int .i64 0] w fun e w' => e = .returned (.int .i64 (r : Int)) ∧ w = w' :=
  (run_any s 0 w (by omega) (by omega) hs).mono fun e w' h => by
    obtain ⟨rfl, rfl⟩ := h
    refine ⟨ret_i ?_, rfl⟩
    rw [hr.out]; simp

theorem val_snoc (l : List UInt8) (c : UInt8) : Nm.val (l ++ [c]) = Nm.val l * 10 + (c.toNat - 48) := by
  unfold Nm.val; simp [Nm.vr]; omega
theorem val_app (l r : List UInt8) : Nm.val l ≤ Nm.val (l ++ r) := by
  induction r generalizing l with
  | nil => simp
  | cons c r ih =>
    have h1 := ih (l ++ [c])
    rw [val_snoc] at h1
    have : l ++ c :: r = l ++ [c] ++ r := by simp
    rw [this]; omega
theorem val_take_le (l : List UInt8) (k : Nat) : Nm.val (l.take k) ≤ Nm.val l := by
  have := val_app (l.take k) (l.drop k)
  rwa [List.take_append_drop] at this
theorem take_snoc (s : ByteArray) (k : Nat) (h : k < s.size) : s.data.toList.take (k + 1) = s.data.toList.take k ++ [s[k]] := by
  rw [List.take_succ_eq_append_getElem (by rw [len_data]; exact h)]; rfl
theorem all_at {s : ByteArray} (h : s.data.toList.all Nm.dig = true) (k : Nat) (hk : k < s.size) : 48 ≤ s[k].toNat ∧ s[k].toNat ≤ 57 := by
  have h1 := List.all_eq_true.1 h (s.data.toList[k]'(by rw [len_data]; exact hk)) (List.getElem_mem _)
  exact Nm.dig_range h1

theorem head_data (s : ByteArray) (h : 0 < s.size) : s.data.toList = s[0] :: s.data.toList.drop 1 := by
  have := drop_cons s 0 h
  simpa using this
theorem isEmpty_of (s : ByteArray) (h : 0 < s.size) : s.toList.isEmpty = false := by
  cases he : s.toList with
  | nil =>
    have := (toList_nil_iff_emptyBytes s).1 he
    subst this; simp at h
  | cons c l => rfl
theorem neg_of (s : ByteArray) (h : 0 < s.size) : Nm.neg s.data.toList = decide (s[0].toNat = 45) := by
  rw [head_data s h]; unfold Nm.neg
  rw [Bool.eq_iff_iff]
  simp only [List.head?_cons, beq_iff_eq, Option.some.injEq, decide_eq_true_eq]
  exact ⟨fun e => by rw [e]; rfl, fun e => UInt8.toNat_inj.1 e⟩

theorem body_pos {s : ByteArray} (h : Nm.neg s.data.toList = false) : Nm.body s.data.toList = s.data.toList := by unfold Nm.body; rw [h]; rfl
theorem parse_bad {l : List UInt8} (h : Nm.bad l = true) : Nm.parse l = (0, 2) := by unfold Nm.parse; rw [if_pos h]
theorem parse_big {l : List UInt8} (h : Nm.bad l = false) (h' : Nm.bound (Nm.neg l) < Nm.val (Nm.body l)) : Nm.parse l = (0, 5) := by unfold Nm.parse; rw [if_neg (by simp [h]), if_pos h']
theorem parse_ok {l : List UInt8} (h : Nm.bad l = false) (h' : Nm.val (Nm.body l) ≤ Nm.bound (Nm.neg l)) : Nm.parse l = (if Nm.neg l then -(Nm.val (Nm.body l) : Int) else Nm.val (Nm.body l), 0) := by
  unfold Nm.parse; rw [if_neg (by simp [h]), if_neg (by omega)]

set_option maxHeartbeats 1000000 in
theorem parse_pos (s : ByteArray) (w : World) (hs : s.size ≤ 4611686018427387904) (hne : 0 < s.size) (h45 : ((s[0].toNat : Int) == 45) = false) :
    Calls Try.prog 20 #[.string s] w fun e w' => e = .returned (.tuple #[.int .i64 (Nm.parse s.data.toList).1, .int .i64 (Nm.parse s.data.toList).2]) ∧ w = w' := by
  have hl := isEmpty_of s hne
  have hneg : Nm.neg s.data.toList = false := by rw [neg_of s hne]; simp at h45; simp; omega
  have hbd := body_pos hneg
  have hhd := head_data s hne
  obtain ⟨r, hr⟩ : ∃ r, r = Nm.run s.data.toList := ⟨_, rfl⟩
  have hrl := run_le s.data.toList
  rw [← hr, len_data] at hrl
  have hbad : Nm.bad s.data.toList = (decide (r ≠ s.size) || (decide (s[0].toNat = 48) && decide (1 < s.size))) := by
    unfold Nm.bad
    rw [hbd, hneg, len_data, Bool.or_false]
    have e1 : s.data.toList.isEmpty = false := by rw [hhd]; rfl
    have e2 : (!s.data.toList.all Nm.dig) = decide (r ≠ s.size) := by
      have := run_all s.data.toList
      rw [← hr, len_data] at this
      by_cases hc : s.data.toList.all Nm.dig = true
      · have h2 := this.2 hc
        rw [hc, decide_eq_false (by omega)]; rfl
      · have h2 : r ≠ s.size := fun e => hc (this.1 e)
        rw [decide_eq_true h2]; simp only [Bool.not_eq_true] at hc; rw [hc]; rfl
    have e3 : (s.data.toList.head? == some 48) = decide (s[0].toNat = 48) := by
      rw [hhd, Bool.eq_iff_iff]
      simp only [List.head?_cons, beq_iff_eq, Option.some.injEq, decide_eq_true_eq]
      exact ⟨fun e => by rw [e]; rfl, fun e => UInt8.toNat_inj.1 e⟩
    rw [e1, e2, e3]; simp
  have hall : r = s.size → s.data.toList.all Nm.dig = true := fun e => (run_all s.data.toList).1 (by rw [← hr, len_data, e])
  have HR := Lib.hid hr
  clear hr hhd
  have HB := Lib.hid hbad
  have HN := Lib.hid hneg
  have HBD := Lib.hid hbd
  have HA := Lib.hid hall
  clear hbad hneg hbd hall
  go_enter Try.func20, Try.ntmps20
  go_wp2_with (go_at_call 43; refine (run0 _ r HR _ hs).mono ?_; rintro e w' ⟨rfl, rfl⟩)
  all_goals try (go_ret2; exact ⟨ret_ii (by rw [parse_bad (by rw [HB.out]; simp; omega)]) (by rw [parse_bad (by rw [HB.out]; simp; omega)]), rfl⟩)
  all_goals
    have hg : Nm.bad s.data.toList = false := by rw [HB.out]; simp; omega
    have hrs : r = s.size := by omega
    have HA2 := Lib.hid (HA.out hrs)
    have HG := Lib.hid hg
    clear hg hrs
    go_loop [7, 48] (fun m i => ∃ k v : Nat, k ≤ s.size ∧ i = .int .i64 k ∧ m = .int .u64 v ∧ v ≤ 9223372036854775807 ∧ Hid (v = Nm.val (s.data.toList.take k))) (fun _ i => s.size - (intOf i).toNat)
    case atStart => exact ⟨0, 0, by omega, rfl, rfl, by omega, by unfold Hid; rfl⟩
    case round =>
      obtain ⟨k, v, hk, rfl, rfl, hv, HV⟩ := hrel
      by_cases hlt : k < s.size
      · have hdg := all_at HA2.out k hlt
        have h48 := hdg.1
        have h57 := hdg.2
        clear hdg
        have hsn : Nm.val (s.data.toList.take (k + 1)) = Nm.val (s.data.toList.take k) * 10 + (s[k].toNat - 48) := by rw [take_snoc s k hlt, val_snoc]
        have hle := val_take_le s.data.toList (k + 1)
        rw [hsn, ← HV.out] at hle
        rw [← HV.out] at hsn
        have HS := Lib.hid hsn
        have HL := Lib.hid hle
        clear hsn hle
        go_wp2
        · go_ret2
          have hbig : Nm.bound (Nm.neg s.data.toList) < Nm.val (Nm.body s.data.toList) := by
            rw [HBD.out, HN.out]; have := HL.out; unfold Nm.bound; simp only [Bool.false_eq_true, if_false]; omega
          rw [parse_big HG.out hbig]
          exact ⟨rfl, rfl⟩
        · go_round
          case rel => exact ⟨k + 1, v * 10 + (s[k].toNat - 48), by omega, by go_num, by congr 1; omega, by omega, by unfold Hid; rw [HS.out]⟩
          case measure => simp [intOf]; omega
      · go_wp2
        go_ret2
        obtain rfl : k = s.size := by omega
        have hv2 : v = Nm.val s.data.toList := by rw [HV.out, List.take_of_length_le (by rw [len_data]; exact Nat.le_refl _)]
        have hok : Nm.val (Nm.body s.data.toList) ≤ Nm.bound (Nm.neg s.data.toList) := by
          rw [HBD.out, HN.out, ← hv2]; exact hv
        rw [parse_ok HG.out hok, HN.out, HBD.out, ← hv2]
        exact ⟨ret_ii (by simp) rfl, rfl⟩

theorem body_neg {s : ByteArray} (h : Nm.neg s.data.toList = true) : Nm.body s.data.toList = (s.extract 1 s.size).data.toList := by
  unfold Nm.body; rw [h, Lib.extract_to_end]; simp
theorem size_tail (s : ByteArray) : (s.extract 1 s.size).size = s.size - 1 := by rw [ByteArray.size_extract]; omega

theorem isEmpty_nil (s : ByteArray) (h : s.size = 0) : s.toList.isEmpty = true := by
  have : s.toList = [] := (toList_nil_iff_emptyBytes s).2 (by
    apply ByteArray.ext
    have : s.data = #[] := Array.eq_empty_of_size_eq_zero h
    rw [this]; rfl)
  rw [this]; rfl

set_option maxHeartbeats 1000000 in
theorem parse_neg1 (s : ByteArray) (w : World) (hne : 0 < s.size) (hle : s.size ≤ 1) (h45 : ((s[0].toNat : Int) == 45) = true) :
    Calls Try.prog 20 #[.string s] w fun e w' => e = .returned (.tuple #[.int .i64 (Nm.parse s.data.toList).1, .int .i64 (Nm.parse s.data.toList).2]) ∧ w = w' := by
  have hl := isEmpty_of s (by omega)
  have hneg : Nm.neg s.data.toList = true := by rw [neg_of s (by omega)]; simp at h45; simp; omega
  have hbd := body_neg hneg
  have he : (s.extract 1 s.size).toList.isEmpty = true := isEmpty_nil _ (by rw [size_tail]; omega)
  have hb : Nm.bad s.data.toList = true := by
    unfold Nm.bad
    rw [hbd]
    have : (s.extract 1 s.size).data.toList = [] := List.eq_nil_of_length_eq_zero (by rw [len_data, size_tail]; omega)
    rw [this]; rfl
  have hp := parse_bad hb
  have HP := Lib.hid hp
  clear hp hb hbd hneg
  go_enter Try.func20, Try.ntmps20
  go_wp2
  go_ret2
  rw [HP.out]
  exact ⟨rfl, rfl⟩

set_option maxHeartbeats 1000000 in
theorem parse_neg (s : ByteArray) (w : World) (hs : s.size ≤ 4611686018427387904) (hne : 1 < s.size) (h45 : ((s[0].toNat : Int) == 45) = true) :
    Calls Try.prog 20 #[.string s] w fun e w' => e = .returned (.tuple #[.int .i64 (Nm.parse s.data.toList).1, .int .i64 (Nm.parse s.data.toList).2]) ∧ w = w' := by
  have hl := isEmpty_of s (by omega)
  have hneg : Nm.neg s.data.toList = true := by rw [neg_of s (by omega)]; simp at h45; simp; omega
  have hbd := body_neg hneg
  have hsz := size_tail s
  have he := isEmpty_of (s.extract 1 s.size) (by omega)
  have h1 : 0 < s.size := by omega
  have HN := Lib.hid hneg
  have HBD := Lib.hid hbd
  have HSZ := Lib.hid hsz
  clear hneg hbd hsz
  go_enter Try.func20, Try.ntmps20
  go_wp2_with fail
  generalize s.extract 1 s.size = d at *
  have hds : d.size ≤ 4611686018427387904 := by have := HSZ.out; omega
  have hd0 : 0 < d.size := by have := HSZ.out; omega
  have hhd := head_data d hd0
  obtain ⟨r, hr⟩ : ∃ r, r = Nm.run d.data.toList := ⟨_, rfl⟩
  have hrl := run_le d.data.toList
  rw [← hr, len_data] at hrl
  have hbad : Nm.bad s.data.toList = (decide (r ≠ d.size) || decide (d[0].toNat = 48)) := by
    unfold Nm.bad
    rw [HBD.out, HN.out, len_data, Bool.or_true]
    have e1 : d.data.toList.isEmpty = false := by rw [hhd]; rfl
    have e2 : (!d.data.toList.all Nm.dig) = decide (r ≠ d.size) := by
      have := run_all d.data.toList
      rw [← hr, len_data] at this
      by_cases hc : d.data.toList.all Nm.dig = true
      · have h2 := this.2 hc
        rw [hc, decide_eq_false (by omega)]; rfl
      · have h2 : r ≠ d.size := fun e => hc (this.1 e)
        rw [decide_eq_true h2]; simp only [Bool.not_eq_true] at hc; rw [hc]; rfl
    have e3 : (d.data.toList.head? == some 48) = decide (d[0].toNat = 48) := by
      rw [hhd, Bool.eq_iff_iff]
      simp only [List.head?_cons, beq_iff_eq, Option.some.injEq, decide_eq_true_eq]
      exact ⟨fun e => by rw [e]; rfl, fun e => UInt8.toNat_inj.1 e⟩
    rw [e1, e2, e3]; simp
  have hall : r = d.size → d.data.toList.all Nm.dig = true := fun e => (run_all d.data.toList).1 (by rw [← hr, len_data, e])
  have HR := Lib.hid hr
  clear hr hhd
  have HB := Lib.hid hbad
  have HA := Lib.hid hall
  clear hbad hall
  refine (run0 _ r HR _ hds).mono ?_
  rintro e w' ⟨rfl, rfl⟩
  go_wp2
  all_goals try (go_ret2; exact ⟨ret_ii (by rw [parse_bad (by rw [HB.out]; simp; omega)]) (by rw [parse_bad (by rw [HB.out]; simp; omega)]), rfl⟩)
  have hg : Nm.bad s.data.toList = false := by rw [HB.out]; simp; omega
  have hrs : r = d.size := by omega
  have HA2 := Lib.hid (HA.out hrs)
  have HG := Lib.hid hg
  clear hg hrs
  go_loop [7, 48] (fun m i => ∃ k v : Nat, k ≤ d.size ∧ i = .int .i64 k ∧ m = .int .u64 v ∧ v ≤ 9223372036854775808 ∧ Hid (v = Nm.val (d.data.toList.take k))) (fun _ i => d.size - (intOf i).toNat)
  case atStart => exact ⟨0, 0, by omega, rfl, rfl, by omega, by unfold Hid; rfl⟩
  case round =>
    obtain ⟨k, v, hk, rfl, rfl, hv, HV⟩ := hrel
    by_cases hlt : k < d.size
    · have hdg := all_at HA2.out k hlt
      have h48 := hdg.1
      have h57 := hdg.2
      clear hdg
      have hsn : Nm.val (d.data.toList.take (k + 1)) = Nm.val (d.data.toList.take k) * 10 + (d[k].toNat - 48) := by rw [take_snoc d k hlt, val_snoc]
      have hle := val_take_le d.data.toList (k + 1)
      rw [hsn, ← HV.out] at hle
      rw [← HV.out] at hsn
      have HS := Lib.hid hsn
      have HL := Lib.hid hle
      clear hsn hle
      go_wp2
      · go_ret2
        have hbig : Nm.bound (Nm.neg s.data.toList) < Nm.val (Nm.body s.data.toList) := by
          rw [HBD.out, HN.out]; have := HL.out; unfold Nm.bound; simp only [if_true]; omega
        rw [parse_big HG.out hbig]
        exact ⟨rfl, rfl⟩
      · go_round
        case rel => exact ⟨k + 1, v * 10 + (d[k].toNat - 48), by omega, by go_num, by congr 1; omega, by omega, by unfold Hid; rw [HS.out]⟩
        case measure => simp [intOf]; omega
    · go_wp2
      go_ret2
      obtain rfl : k = d.size := by omega
      have hv2 : v = Nm.val d.data.toList := by rw [HV.out, List.take_of_length_le (by rw [len_data]; exact Nat.le_refl _)]
      have hok : Nm.val (Nm.body s.data.toList) ≤ Nm.bound (Nm.neg s.data.toList) := by
        rw [HBD.out, HN.out, ← hv2]; exact hv
      rw [parse_ok HG.out hok, HN.out, HBD.out, ← hv2]
      exact ⟨ret_ii (by simp only [wrap64_eq, IntKind.wrap_u64, if_true]; omega) rfl, rfl⟩

set_option maxHeartbeats 1000000 in
theorem parse_none (s : ByteArray) (w : World) (h0 : s.size = 0) :
    Calls Try.prog 20 #[.string s] w fun e w' => e = .returned (.tuple #[.int .i64 (Nm.parse s.data.toList).1, .int .i64 (Nm.parse s.data.toList).2]) ∧ w = w' := by
  have hl := isEmpty_nil s h0
  have hp : Nm.parse s.data.toList = (0, 2) := by
    have : s.data.toList = [] := List.eq_nil_of_length_eq_zero (by rw [len_data]; exact h0)
    rw [this]; rfl
  have HP := Lib.hid hp
  clear hp h0
  go_enter Try.func20, Try.ntmps20
  go_wp2
  go_ret2
  rw [HP.out]
  exact ⟨rfl, rfl⟩

/-- num.Parse: the number of a text, or the error -/
theorem parse_any (s : ByteArray) (w : World) (hs : s.size ≤ 4611686018427387904) :
    Calls Try.prog 20 #[.string s] w fun e w' => e = .returned (.tuple #[.int .i64 (Nm.parse s.data.toList).1, .int .i64 (Nm.parse s.data.toList).2]) ∧ w = w' := by
  rcases Nat.eq_zero_or_pos s.size with h0 | h0
  · exact parse_none s w h0
  · by_cases h : s[0].toNat = 45
    · by_cases h1 : s.size ≤ 1
      · exact parse_neg1 s w h0 h1 (by simp; omega)
      · exact parse_neg s w hs (by omega) (by simp; omega)
    · exact parse_pos s w hs h0 (by simp; omega)

end Go.Proofs.Ythbpkmmnoeikoaa

/-
  token.number: what a row says. Condition: the row is no longer than 2^32 bytes.
-/
namespace Go.Proofs.Ythbpkmmnoeikoaa
open Go Go.RowKit
set_option linter.unusedVariables false
set_option linter.unusedSimpArgs false

theorem bs_ext0 (l : List UInt8) (n : Nat) : (bs l).extract 0 n = bs (l.take n) := by
  apply ByteArray.ext
  apply Array.ext'
  rw [ByteArray.data_extract, Array.toList_extract, List.extract_eq_take_drop]
  simp [bs]
theorem bs_extn (l : List UInt8) (n m : Nat) (h : l.length ≤ m) : (bs l).extract n m = bs (l.drop n) := by
  apply ByteArray.ext
  apply Array.ext'
  rw [ByteArray.data_extract, Array.toList_extract, List.extract_eq_take_drop]
  rw [List.take_of_length_le (by show ((bs l).data.toList.drop n).length ≤ m - n; rw [List.length_drop]; show l.length - n ≤ m - n; omega)]
  rfl
theorem trim1 (l : List UInt8) (c : UInt8) : Lib.trimPrefix l [c] = if l.head? = some c then l.tail else l := by
  unfold Lib.trimPrefix Lib.hasPrefix
  cases l with
  | nil => simp
  | cons a r =>
    by_cases h : a = c
    · subst h; simp [List.isPrefixOf]
    · have h2 : (c == a) = false := by rw [beq_eq_false_iff_ne]; exact fun e => h e.symm
      simp [List.isPrefixOf, h, h2]
theorem has1 (l : List UInt8) (c : UInt8) : Lib.hasPrefix l [c] = decide (l.head? = some c) := by
  unfold Lib.hasPrefix
  cases l with
  | nil => simp
  | cons a r =>
    by_cases h : a = c
    · subst h; simp [List.isPrefixOf]
    · have h2 : (c == a) = false := by rw [beq_eq_false_iff_ne]; exact fun e => h e.symm
      simp [List.isPrefixOf, h, h2]
theorem e_or : ∀ n : Nat, n < 256 → ((n ||| 32) = 101 ↔ (n = 101 ∨ n = 69)) := by decide +kernel

/-- the row's parts, as the program meets them -/
theorem trim_any (s : ByteArray) (W : World) : Calls Try.prog 93 #[.string s, .string ⟨#[45]⟩] W fun e w' => e = .returned (str (Tk.body s.data.toList)) ∧ w' = W := by
  refine (Try.strings_TrimPrefix s ⟨#[45]⟩ W).mono ?_
  rintro e w' ⟨rfl, rfl⟩
  refine ⟨?_, rfl⟩
  show Ending.returned (.string ⟨(Lib.trimPrefix s.data.toList [45]).toArray⟩) = _
  rw [trim1]; rfl
theorem cut_any (l : List UInt8) (W : World) : Calls Try.prog 94 #[str l, .string ⟨#[46]⟩] W fun e w' => e = .returned (.tuple #[str (if l.head? = some 46 then l.tail else l), .bool (decide (l.head? = some 46))]) ∧ w' = W := by
  refine (Try.strings_CutPrefix (bs l) ⟨#[46]⟩ W).mono ?_
  rintro e w' ⟨rfl, rfl⟩
  refine ⟨?_, rfl⟩
  show Ending.returned (.tuple #[.string ⟨(Lib.trimPrefix l [46]).toArray⟩, .bool (Lib.hasPrefix l [46])]) = _
  rw [trim1, has1]; rfl
theorem digits_run (l : List UInt8) (W : World) (hl : l.length ≤ 4294967296) : Calls Try.prog 64 #[str l, .func (.func 68) #[] #[]] W fun e w' => e = .returned (str (l.take (Tk.digs l))) ∧ w' = W := by
  refine (run_digit (bs l) W (by rw [bs_size]; unfold maxLen; omega)).mono ?_
  rintro e w' ⟨rfl, rfl⟩
  refine ⟨?_, rfl⟩
  rw [bs_data, bs_ext0]; rfl

/-- a list's text: is it empty, how long is it, where does it begin -/
theorem bs_nil : (bs []).toList.isEmpty = true := by
  rw [ByteArray.toList_eq]; rfl
theorem bs_cons (c : UInt8) (l : List UInt8) : (bs (c :: l)).toList.isEmpty = false := by
  rw [ByteArray.toList_eq]; rfl

end Go.Proofs.Ythbpkmmnoeikoaa
