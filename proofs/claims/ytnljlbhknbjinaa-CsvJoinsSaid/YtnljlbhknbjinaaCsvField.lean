/-
  csv.behind, csv.quoted, csv.field: a field at a place of a text, what stands behind it, and the place behind that. Condition: the text is shorter than 2^32 - 15 bytes, the place lies in it.
-/
import Derived.Test.YtnljlbhknbjinaaCsvSpec
import Derived.Test.YtnljlbhknbjinaaIndexAny
import Derived.Test.YtnljlbhknbjinaaShelfB
import Derived.Lib.IndexBytes
namespace Go.Proofs.Ytnljlbhknbjinaa
open Go.RowKit
set_option linter.unusedVariables false

/-- a piece as a value -/
abbrev pv (p : Cs.P) : Value := .agg #[.string (bs p.1), .int .i64 (p.2.1 : Int), .int .i64 (p.2.2 : Int)]

theorem drop_cons (s : ByteArray) (k : Nat) (h : k < s.size) : s.data.toList.drop k = s[k] :: s.data.toList.drop (k + 1) := by
  rw [List.drop_eq_getElem_cons (by rw [len_data]; exact h)]; rfl
theorem isEmpty_of (s : ByteArray) (h : 0 < s.size) : s.toList.isEmpty = false := by
  rw [ByteArray.toList_eq]
  cases he : s.data.toList with
  | nil => have := len_data s; rw [he] at this; simp at this; omega
  | cons c l => rfl
theorem isEmpty_nil (s : ByteArray) (h : s.size = 0) : s.toList.isEmpty = true := by
  rw [ByteArray.toList_eq, List.eq_nil_of_length_eq_zero (by rw [len_data]; exact h : s.data.toList.length = 0)]; rfl
theorem size_from (s : ByteArray) (p : Nat) : (s.extract p s.size).size = s.size - p := by rw [ByteArray.size_extract]; omega

theorem get_from (s : ByteArray) (p : Nat) (hp : p < s.size) (h : 0 < (s.extract p s.size).size) : (s.extract p s.size)[0]'h = s[p] := by
  rw [ByteArray.getElem_extract]; simp

set_option maxHeartbeats 1000000 in
theorem behind_nil (s f : ByteArray) (p : Nat) (w : World) (hs : s.size ≤ 4294967280) (hp : s.size ≤ p) (hp2 : p ≤ s.size) :
    Calls Try.prog 29 #[.string s, .int .i64 (p : Int), .string f] w fun e w' => e = .returned (pv (Cs.sh p (Cs.beh (s.data.toList.drop p) f.data.toList))) ∧ Below w.heap.size w w' := by
  have hd : s.data.toList.drop p = [] := List.drop_eq_nil_of_le (by rw [len_data]; omega)
  have hv : pv (Cs.sh p (Cs.beh (s.data.toList.drop p) f.data.toList)) = .agg #[.string f, .int .i64 1, .int .i64 (p : Int)] := by
    rw [hd]
    simp [Cs.beh, Cs.sh]; rfl
  have HV := Lib.hid hv
  have he : (s.extract p s.size).toList.isEmpty = true := isEmpty_nil _ (by rw [size_from]; omega)
  clear hd hv
  go_enter Try.func29, Try.ntmps29
  go_wp2
  rw [HV.out]
  exact bodyPost_ret (v := .agg #[.string f, .int .i64 1, .int .i64 (p : Int)]) (by simp [results, Try.results29, go_sem]) rfl ⟨rfl, (Below.refl _ _).alloc (Nat.le_refl _) _⟩

set_option maxHeartbeats 1000000 in
theorem behind_comma (s f : ByteArray) (p : Nat) (w : World) (hs : s.size ≤ 4294967280) (hp : p < s.size) (hc : s[p] = 44) :
    Calls Try.prog 29 #[.string s, .int .i64 (p : Int), .string f] w fun e w' => e = .returned (pv (Cs.sh p (Cs.beh (s.data.toList.drop p) f.data.toList))) ∧ Below w.heap.size w w' := by
  have hd : s.data.toList.drop p = 44 :: s.data.toList.drop (p + 1) := by rw [drop_cons s p hp, hc]
  have hv : pv (Cs.sh p (Cs.beh (s.data.toList.drop p) f.data.toList)) = .agg #[.string f, .int .i64 0, .int .i64 ((p : Int) + 1)] := by
    rw [hd]
    simp [Cs.beh, Cs.sh]; exact ⟨rfl, by omega⟩
  have HV := Lib.hid hv
  have he : (s.extract p s.size).toList.isEmpty = false := isEmpty_of _ (by rw [size_from]; omega)
  have hx : ∀ h : 0 < (s.extract p s.size).size, (((s.extract p s.size)[0]'h).toNat : Int) = 44 := fun h => by rw [get_from s p hp h, hc]; rfl
  have hsz : (s.extract p s.size).size = s.size - p := size_from s p
  have HC := Lib.hid hc
  clear hd hv
  go_enter Try.func29, Try.ntmps29
  go_wp2
  rw [HV.out]
  exact bodyPost_ret (v := .agg #[.string f, .int .i64 0, .int .i64 ((p : Int) + 1)]) (by simp [results, Try.results29, go_sem]) rfl ⟨rfl, (Below.refl _ _).alloc (Nat.le_refl _) _⟩

theorem hasp (s : ByteArray) (b : Bool) (h : Hid (Lib.hasPrefix s.data.toList [13, 10] = b)) (w : World) :
    Calls Try.prog 35 #[.string s, .string ⟨#[13, 10]⟩] w fun e w' => e = .returned (.bool b) ∧ w = w' := by
  refine (Try.strings_HasPrefix s ⟨#[13, 10]⟩ w).mono ?_
  rintro e w' ⟨rfl, rfl⟩
  exact ⟨ret_b h.out, rfl⟩


set_option maxHeartbeats 1000000 in
theorem behind_crlf (s f : ByteArray) (p : Nat) (w : World) (hs : s.size ≤ 4294967280) (hp1 : p + 1 < s.size) (hp : p < s.size) (hc : s[p] = 13) (hc1 : s[p + 1] = 10) :
    Calls Try.prog 29 #[.string s, .int .i64 (p : Int), .string f] w fun e w' => e = .returned (pv (Cs.sh p (Cs.beh (s.data.toList.drop p) f.data.toList))) ∧ Below w.heap.size w w' := by
  have hc0 : ¬ s[p] = 44 := by rw [hc]; decide
  have hd : s.data.toList.drop p = 13 :: 10 :: s.data.toList.drop (p + 2) := by rw [drop_cons s p hp, drop_cons s (p + 1) hp1, hc, hc1]
  have hv : pv (Cs.sh p (Cs.beh (s.data.toList.drop p) f.data.toList)) = .agg #[.string f, .int .i64 1, .int .i64 ((p : Int) + 2)] := by
    rw [hd]
    simp [Cs.beh, Cs.sh]; exact ⟨rfl, by omega⟩
  have HV := Lib.hid hv
  have he : (s.extract p s.size).toList.isEmpty = false := isEmpty_of _ (by rw [size_from]; omega)
  have hx : ∀ h : 0 < (s.extract p s.size).size, (((s.extract p s.size)[0]'h).toNat : Int) = (s[p].toNat : Int) := fun h => by rw [get_from s p hp h]
  have hne : ((s[p].toNat : Int) == 44) = false := by
    rw [beq_eq_false_iff_ne]; intro e; exact hc0 (UInt8.toNat_inj.1 (by have : (44 : UInt8).toNat = 44 := rfl; omega))
  have hsz : (s.extract p s.size).size = s.size - p := size_from s p
  have HC := Lib.hid hc0
  have HP : Hid (Lib.hasPrefix (s.extract p s.size).data.toList [13, 10] = true) := by unfold Hid; rw [Lib.extract_to_end, hd]; rfl
  clear hc hc1 hc0
  clear hd hv
  go_enter Try.func29, Try.ntmps29
  go_wp2_with (go_at_call 35; refine (hasp _ _ HP _).mono ?_; rintro e w' ⟨rfl, rfl⟩)
  rw [HV.out]
  exact bodyPost_ret (v := .agg #[.string f, .int .i64 1, .int .i64 ((p : Int) + 2)]) (by simp [results, Try.results29, go_sem]) rfl ⟨rfl, (Below.refl _ _).alloc (Nat.le_refl _) _⟩


set_option maxHeartbeats 1000000 in
theorem behind_wrong (s f : ByteArray) (p : Nat) (w : World) (hs : s.size ≤ 4294967280) (hp : p < s.size) (hc0 : ¬ s[p] = 44) (hc1 : ¬ (s[p] = 13 ∧ ∃ h : p + 1 < s.size, s[p + 1] = 10)) :
    Calls Try.prog 29 #[.string s, .int .i64 (p : Int), .string f] w fun e w' => e = .returned (pv (Cs.sh p (Cs.beh (s.data.toList.drop p) f.data.toList))) ∧ Below w.heap.size w w' := by
  have hd := drop_cons s p hp
  have hh : ¬ (s[p] = 13 ∧ (s.data.toList.drop (p + 1)).head? = some 10) := by
    rintro ⟨h1, h2⟩
    refine hc1 ⟨h1, ?_⟩
    by_cases h : p + 1 < s.size
    · rw [drop_cons s (p + 1) h] at h2
      exact ⟨h, by simpa using h2⟩
    · rw [List.drop_eq_nil_of_le (by rw [len_data]; omega)] at h2; simp at h2
  have hv : pv (Cs.sh p (Cs.beh (s.data.toList.drop p) f.data.toList)) = .agg #[.string ⟨#[]⟩, .int .i64 2, .int .i64 (p : Int)] := by
    rw [hd]
    simp only [Cs.beh, if_neg hc0, if_neg hh, Cs.sh, Nat.zero_add]; rfl
  have HV := Lib.hid hv
  have he : (s.extract p s.size).toList.isEmpty = false := isEmpty_of _ (by rw [size_from]; omega)
  have hx : ∀ h : 0 < (s.extract p s.size).size, (((s.extract p s.size)[0]'h).toNat : Int) = (s[p].toNat : Int) := fun h => by rw [get_from s p hp h]
  have hne : ((s[p].toNat : Int) == 44) = false := by
    rw [beq_eq_false_iff_ne]; intro e; exact hc0 (UInt8.toNat_inj.1 (by have : (44 : UInt8).toNat = 44 := rfl; omega))
  have hsz : (s.extract p s.size).size = s.size - p := size_from s p
  have HC := Lib.hid hc0
  have HP : Hid (Lib.hasPrefix (s.extract p s.size).data.toList [13, 10] = false) := by
    unfold Hid; rw [Lib.extract_to_end, hd]
    unfold Lib.hasPrefix
    cases hx2 : s.data.toList.drop (p + 1) with
    | nil => show ((13 == s[p]) && false) = false; simp
    | cons d r =>
      rw [hx2] at hh
      simp only [List.head?_cons, Option.some.injEq, not_and] at hh
      show ((13 == s[p]) && ((10 == d) && true)) = false
      simp only [Bool.and_true, Bool.and_eq_false_iff, beq_eq_false_iff_ne, ne_eq]
      by_cases h13 : s[p] = 13
      · right; exact fun e => hh h13 e.symm
      · left; exact fun e => h13 e.symm
  clear hh hc1 hc0
  clear hd hv
  go_enter Try.func29, Try.ntmps29
  go_wp2_with (go_at_call 35; refine (hasp _ _ HP _).mono ?_; rintro e w' ⟨rfl, rfl⟩)
  rw [HV.out]
  exact bodyPost_ret (v := .agg #[.string ⟨#[]⟩, .int .i64 2, .int .i64 (p : Int)]) (by simp [results, Try.results29, go_sem]) rfl ⟨rfl, (Below.refl _ _).alloc (Nat.le_refl _) _⟩


theorem behind_any (s f : ByteArray) (p : Nat) (w : World) (hs : s.size ≤ 4294967280) (hp : p ≤ s.size) :
    Calls Try.prog 29 #[.string s, .int .i64 (p : Int), .string f] w fun e w' => e = .returned (pv (Cs.sh p (Cs.beh (s.data.toList.drop p) f.data.toList))) ∧ Below w.heap.size w w' := by
  by_cases h0 : p < s.size
  · by_cases h1 : s[p] = 44
    · exact behind_comma s f p w hs h0 h1
    · by_cases h2 : s[p] = 13 ∧ ∃ h : p + 1 < s.size, s[p + 1] = 10
      · obtain ⟨a, b, c⟩ := h2
        exact behind_crlf s f p w hs b h0 a c
      · exact behind_wrong s f p w hs h0 h1 h2
  · exact behind_nil s f p w hs (by omega) hp

/-! ### quoted -/
theorem quo_char (c : UInt8) (r acc : Cs.F) (h : c ≠ 34) : Cs.quo (c :: r) acc = Cs.sh 1 (Cs.quo r (acc ++ [c])) := by
  cases r with
  | nil => simp [Cs.quo, h, Cs.sh]
  | cons d r => rw [Cs.quo, if_pos h]
theorem quo_close (r acc : Cs.F) (h : r.head? ≠ some 34) : Cs.quo (34 :: r) acc = Cs.sh 1 (Cs.beh r acc) := by
  cases r with
  | nil => simp [Cs.quo]
  | cons d r =>
    have hd : d ≠ 34 := by simpa using h
    rw [Cs.quo, if_neg (by simp), if_neg hd]
theorem quo_two (r acc : Cs.F) : Cs.quo (34 :: 34 :: r) acc = Cs.sh 2 (Cs.quo r (acc ++ [34])) := by
  rw [Cs.quo, if_neg (by simp), if_pos rfl]
theorem sh_sh (a b : Nat) (p : Cs.P) : Cs.sh a (Cs.sh b p) = Cs.sh (a + b) p := by simp [Cs.sh]; omega

theorem wb34 (B b : Nat) (l : List UInt8) (w : World) (h : IsB B b l w) (hlen : l.length ≤ 70368744177664) :
    Calls Try.prog 19 #[.pointer (some ⟨b, 0, none⟩), .int .u8 34] w fun e w' => e = .returned .nilIface ∧ IsB B b (l ++ [34]) w' ∧ Below B w w' := wb_any B b l 34 w h hlen

theorem below_set3 {N : Nat} {w W : World} (h : Below N w W) (a b c : Value) : Below N w (((W.setCell ⟨N, 0, none⟩ a).setCell ⟨N, 1, none⟩ b).setCell ⟨N, 2, none⟩ c) :=
  ((h.setCell (p := ⟨N, 0, none⟩) (Nat.le_refl _) a).setCell (p := ⟨N, 1, none⟩) (Nat.le_refl _) b).setCell (p := ⟨N, 2, none⟩) (Nat.le_refl _) c

/-- the zero piece at a block -/
def Z0 (w : World) (b : Nat) : Prop := w.heap[b]? = some (.cells #[.string ⟨#[]⟩, .int .i64 0, .int .i64 0] 44 (0, 0))
theorem Z0.cells {w : World} {b : Nat} (h : Z0 w b) : w.cell? ⟨b, 0, none⟩ = some (.string ⟨#[]⟩) ∧ w.cell? ⟨b, 1, none⟩ = some (.int .i64 0) ∧ w.cell? ⟨b, 2, none⟩ = some (.int .i64 0) ∧ (∀ j, w.frozen? ⟨b, j, none⟩ = false) := by
  unfold Z0 at h
  exact ⟨by simp [World.cell?, h], by simp [World.cell?, h], by simp [World.cell?, h], fun j => by simp [World.frozen?, h]⟩

/-- at a round's head: what has been read, and that the rest's answer is the whole's -/
def QR (s : ByteArray) (p : Nat) (w0 : World) (i : Value) (w : World) : Prop :=
  ∃ (k : Nat) (acc : Cs.F), p + 1 ≤ k ∧ k ≤ s.size ∧ i = .int .i64 (k : Int) ∧ acc.length ≤ k ∧ IsB (w0.heap.size + 1) (w0.heap.size + 1) acc w ∧ Z0 w w0.heap.size ∧ Below w0.heap.size w0 w ∧
    Hid (Cs.sh (p + 1) (Cs.quo (s.data.toList.drop (p + 1)) []) = Cs.sh k (Cs.quo (s.data.toList.drop k) acc))

set_option maxHeartbeats 2000000 in
theorem quoted_any (s : ByteArray) (p : Nat) (w : World) (hs : s.size ≤ 4294967280) (hp : p < s.size) :
    Calls Try.prog 28 #[.string s, .int .i64 (p : Int)] w fun e w' => e = .returned (pv (Cs.sh (p + 1) (Cs.quo (s.data.toList.drop (p + 1)) []))) ∧ Below w.heap.size w w' := by
  go_enter Try.func28, Try.ntmps28
  go_wp2_with fail
  go_loopw [6] (QR s p w) (fun i _ => s.size - (intOf i).toNat)
  case atStart =>
    refine ⟨p + 1, [], Nat.le_refl _, by omega, by go_num, by simp, ?_, ?_, ?_, by unfold Hid; rfl⟩
    · have := IsB.new (w.alloc (.cells #[.string ⟨#[]⟩, .int .i64 0, .int .i64 0] 44))
      rwa [World.size_alloc] at this
    · exact (Below.heap_alloc _ _ _ (by simp)).trans (heap_alloc_new w _)
    · exact ((Below.refl _ w).alloc (Nat.le_refl _) _).alloc (by simp) _
  case round =>
    obtain ⟨k, acc, hk0, hk, rfl, hacc, hB, hZ, hbl, HQ⟩ := hrel
    have hsz := hbl.size
    have hsz2 : w.heap.size + 1 < wr.heap.size := hB.lt.2
    by_cases hlt : k < s.size
    · by_cases h34 : s[k] = 34
      · by_cases h342 : ∃ h : k + 1 < s.size, s[k + 1] = 34
        · obtain ⟨hlt1, h1⟩ := h342
          have b1 : ((s[k].toNat : Int) != 34) = false := by rw [h34]; rfl
          have b2 : (((k : Int) + 1) == (s.size : Int)) = false := beq_eq_false_iff_ne.2 (by omega)
          have b3 : ((s[k + 1].toNat : Int) != 34) = false := by rw [h1]; rfl
          have H34 := Lib.hid h34
          have H1 := Lib.hid h1
          clear h34 h1
          go_wp2_with (go_at_call 19; refine (wb34 _ _ _ _ hB (by omega)).mono ?_; rintro e w1 ⟨rfl, hB1, hb1⟩)
          go_roundw
          case rel =>
            refine ⟨k + 2, acc ++ [34], by omega, by omega, by go_num, by simp; omega, hB1, (hb1.block _ (by omega)).trans hZ, hbl.trans (hb1.mono (by omega)), ?_⟩
            unfold Hid
            rw [HQ.out, drop_cons s k hlt, drop_cons s (k + 1) hlt1, H34.out, H1.out, quo_two, sh_sh]
          case measure => simp [intOf]; omega
        · have b1 : ((s[k].toNat : Int) != 34) = false := by rw [h34]; rfl
          have hend : pv (Cs.sh (p + 1) (Cs.quo (s.data.toList.drop (p + 1)) [])) = pv (Cs.sh (k + 1) (Cs.beh (s.data.toList.drop (k + 1)) (bs acc).data.toList)) := by
            rw [HQ.out, drop_cons s k hlt, h34, quo_close, sh_sh, bs_data]
            intro e
            by_cases h : k + 1 < s.size
            · rw [drop_cons s (k + 1) h] at e
              exact h342 ⟨h, by simpa using e⟩
            · rw [List.drop_eq_nil_of_le (by rw [len_data]; omega)] at e; simp at e
          have HE := Lib.hid hend
          have hbe := fun W => behind_any s (bs acc) (k + 1) W hs (by omega)
          generalize Cs.sh (k + 1) (Cs.beh (s.data.toList.drop (k + 1)) (bs acc).data.toList) = P at *
          have HBE := Lib.hid hbe
          clear hend hbe h34
          have hcase : (k + 1 = s.size) ∨ (k + 1 < s.size) := by omega
          rcases hcase with h1 | h1
          · have b2 : (((k : Int) + 1) == (s.size : Int)) = true := beq_iff_eq.2 (by omega)
            clear h1 h342
            go_wp2_with (first
              | (go_at_call 21; refine (bstr_any _ _ _ _ hB).mono ?_; rintro e w1 ⟨rfl, hb1⟩)
              | (go_at_call 29; refine (HBE.out _).mono ?_; rintro e w2 ⟨rfl, hb2⟩; obtain ⟨z1, z2, z3, z4⟩ := Z0.cells (((hb2.block _ (by have := hb1.size; omega)).trans ((hb1.block _ (by omega)).trans hZ)) : Z0 w2 w.heap.size)))
            have hB2 : Below w.heap.size w _ := (hbl.trans (hb1.mono (by omega))).trans (hb2.mono (by have := hb1.size; omega))
            rw [HE.out]
            exact bodyPost_ret (v := pv P) (by simp [results, Try.results28, go_sem, z1, z2, z3]) rfl ⟨rfl, below_set3 hB2 _ _ _⟩
          · have b2 : (((k : Int) + 1) == (s.size : Int)) = false := beq_eq_false_iff_ne.2 (by omega)
            have b3 : ((s[k + 1].toNat : Int) != 34) = true := by
              rw [bne_iff_ne]; intro e; exact h342 ⟨h1, UInt8.toNat_inj.1 (by have : (34 : UInt8).toNat = 34 := rfl; omega)⟩
            clear h342
            go_wp2_with (first
              | (go_at_call 21; refine (bstr_any _ _ _ _ hB).mono ?_; rintro e w1 ⟨rfl, hb1⟩)
              | (go_at_call 29; refine (HBE.out _).mono ?_; rintro e w2 ⟨rfl, hb2⟩; obtain ⟨z1, z2, z3, z4⟩ := Z0.cells (((hb2.block _ (by have := hb1.size; omega)).trans ((hb1.block _ (by omega)).trans hZ)) : Z0 w2 w.heap.size)))
            have hB2 : Below w.heap.size w _ := (hbl.trans (hb1.mono (by omega))).trans (hb2.mono (by have := hb1.size; omega))
            rw [HE.out]
            exact bodyPost_ret (v := pv P) (by simp [results, Try.results28, go_sem, z1, z2, z3]) rfl ⟨rfl, below_set3 hB2 _ _ _⟩
      · have hne : ((s[k].toNat : Int) != 34) = true := by
          rw [bne_iff_ne]; intro e; exact h34 (UInt8.toNat_inj.1 (by have : (34 : UInt8).toNat = 34 := rfl; omega))
        have HN := Lib.hid h34
        clear h34
        go_wp2_with (go_at_call 19; refine (wb_any _ _ _ _ _ hB (by omega)).mono ?_; rintro e w1 ⟨rfl, hB1, hb1⟩)
        go_roundw
        case rel =>
          refine ⟨k + 1, acc ++ [s[k]], by omega, by omega, by go_num, by simp; omega, hB1, (hb1.block _ (by omega)).trans hZ, hbl.trans (hb1.mono (by omega)), ?_⟩
          unfold Hid
          rw [HQ.out, drop_cons s k hlt, quo_char _ _ _ HN.out, sh_sh]
        case measure => simp [intOf]; omega
    · have hke : k = s.size := by omega
      have hend : pv (Cs.sh (p + 1) (Cs.quo (s.data.toList.drop (p + 1)) [])) = .agg #[.string ⟨#[]⟩, .int .i64 2, .int .i64 (s.size : Int)] := by
        rw [HQ.out, List.drop_eq_nil_of_le (by rw [len_data]; omega)]
        simp [Cs.quo, Cs.sh, hke]; rfl
      have HE := Lib.hid hend
      clear hend hke
      obtain ⟨z1, z2, z3, z4⟩ := hZ.cells
      go_wp2
      rw [HE.out]
      exact bodyPost_ret (v := .agg #[.string ⟨#[]⟩, .int .i64 2, .int .i64 (s.size : Int)]) (by simp [results, Try.results28, go_sem, z1, z2, z3]) rfl ⟨rfl, below_set3 hbl _ _ _⟩

/-! ### a field -/
theorem indexAny_any (s : ByteArray) (w : World) (hs : s.size ≤ 4294967280) :
    Calls Try.prog 27 #[.string s, .string four4] w fun e w' => e = .returned (.int .i64 (Lib.indexAny s.data.toList four4.data.toList)) ∧ Below w.heap.size w w' := by
  by_cases h : s.size ≤ 8
  · exact indexAny_short s w h
  · refine (Try.strings_IndexAny_long (fun w => by kernel_rfl) s four4 w (by decide) (by omega) (by omega) (by decide) (fun j b hb => four4_ascii b (List.mem_of_getElem? hb))).mono ?_
    rintro e w' ⟨rfl, rfl⟩
    exact ⟨rfl, ((Below.refl _ _).alloc (Nat.le_refl _) _).alloc (by simp) _⟩

theorem indexAny_plain : ∀ l : Cs.F, Lib.indexAny l four4.data.toList = if Cs.plain l < l.length then (Cs.plain l : Int) else -1
  | [] => rfl
  | c :: l => by
    have ih := indexAny_plain l
    have hc : four4.data.toList.contains c = Cs.stop c := by
      show [44, 34, 13, 10].contains c = _
      simp only [List.contains_cons, List.contains_nil, Bool.or_false, Cs.stop]
      cases h1 : c == 44 <;> cases h2 : c == 34 <;> cases h3 : c == 13 <;> cases h4 : c == 10 <;> rfl
    rw [Lib.indexAny, hc, ih, show Cs.plain (c :: l) = if Cs.stop c then 0 else Cs.plain l + 1 from rfl]
    by_cases hs : Cs.stop c = true
    · simp [hs]
    · rw [if_neg hs, if_neg hs]
      by_cases hl : Cs.plain l < l.length
      · have h2 : Cs.plain l + 1 < (c :: l).length := by simp only [List.length_cons]; omega
        have h3 : ((Cs.plain l : Int) == -1) = false := by rw [beq_eq_false_iff_ne]; omega
        simp only [if_pos hl, if_pos h2, h3]; simp
      · have h2 : ¬ Cs.plain l + 1 < (c :: l).length := by simp only [List.length_cons]; omega
        simp only [if_neg hl, if_neg h2]; simp

theorem fld_at (s : ByteArray) (p : Nat) : Cs.sh p (Cs.fld (s.data.toList.drop p)) =
    if (s.data.toList.drop p).head? = some 34 then Cs.sh (p + 1) (Cs.quo (s.data.toList.drop (p + 1)) [])
    else Cs.sh (p + Cs.plain (s.data.toList.drop p)) (Cs.beh (s.data.toList.drop (p + Cs.plain (s.data.toList.drop p))) ((s.data.toList.drop p).take (Cs.plain (s.data.toList.drop p)))) := by
  unfold Cs.fld
  split
  · rw [sh_sh, List.tail_drop]
  · rw [sh_sh, List.drop_drop]

set_option maxHeartbeats 2000000 in
theorem field_quo (s : ByteArray) (p : Nat) (w : World) (hs : s.size ≤ 4294967280) (hp : p < s.size) (h34 : s[p] = 34) :
    Calls Try.prog 25 #[.string s, .int .i64 (p : Int)] w fun e w' => e = .returned (pv (Cs.sh p (Cs.fld (s.data.toList.drop p)))) ∧ Below w.heap.size w w' := by
  have he : pv (Cs.sh p (Cs.fld (s.data.toList.drop p))) = pv (Cs.sh (p + 1) (Cs.quo (s.data.toList.drop (p + 1)) [])) := by
    rw [fld_at, if_pos (by rw [drop_cons s p hp, h34]; rfl)]
  have hq := fun w => quoted_any s p w hs hp
  generalize Cs.sh (p + 1) (Cs.quo (s.data.toList.drop (p + 1)) []) = P at *
  have HE := Lib.hid he
  have HQ := Lib.hid hq
  have hb : ((s[p].toNat : Int) == 34) = true := by rw [h34]; rfl
  clear he hq h34
  go_enter Try.func25, Try.ntmps25
  go_wp2_with (go_at_call 28; refine (HQ.out _).mono ?_; rintro e w1 ⟨rfl, hb1⟩; obtain ⟨z1, z2, z3, z4⟩ := Z0.cells ((hb1.block w.heap.size (by simp)).trans (heap_alloc_new w _) : Z0 w1 w.heap.size))
  have hB2 : Below w.heap.size w w1 := ((Below.refl _ w).alloc (Nat.le_refl _) _).trans (hb1.mono (by simp))
  rw [HE.out]
  exact bodyPost_ret (v := pv P) (by simp [results, Try.results25, go_sem, z1, z2, z3]) rfl ⟨rfl, below_set3 hB2 _ _ _⟩

set_option maxHeartbeats 2000000 in
theorem field_plain (s : ByteArray) (p n : Nat) (w : World) (hs : s.size ≤ 4294967280) (hp : p ≤ s.size) (hh : (s.data.toList.drop p).head? ≠ some 34) (hn : Hid (n = Cs.plain (s.data.toList.drop p))) :
    Calls Try.prog 25 #[.string s, .int .i64 (p : Int)] w fun e w' => e = .returned (pv (Cs.sh p (Cs.fld (s.data.toList.drop p)))) ∧ Below w.heap.size w w' := by
  have hpl := Cs.plain_len (s.data.toList.drop p)
  rw [← hn.out, List.length_drop, len_data] at hpl
  have hx : (s.extract p (p + n)).data.toList = (s.data.toList.drop p).take n := by
    rw [ByteArray.data_extract, Array.toList_extract]
    show ((s.data.toList.drop p).take (p + n - p)) = _
    rw [show p + n - p = n from by omega]
  have he : pv (Cs.sh p (Cs.fld (s.data.toList.drop p))) = pv (Cs.sh (p + n) (Cs.beh (s.data.toList.drop (p + n)) (s.extract p (p + n)).data.toList)) := by
    rw [fld_at, if_neg hh, ← hn.out, hx]
  have hia : ∀ w, Calls Try.prog 27 #[.string (s.extract p s.size), .string four4] w fun e w' => e = .returned (.int .i64 (if n < s.size - p then (n : Int) else -1)) ∧ Below w.heap.size w w' := fun w => by
    refine (indexAny_any (s.extract p s.size) w (by rw [size_from]; omega)).mono ?_
    rintro e w' ⟨rfl, hb⟩
    refine ⟨ret_i ?_, hb⟩
    rw [indexAny_plain, Lib.extract_to_end, ← hn.out, List.length_drop, len_data]
  have hbe := fun w => behind_any s (s.extract p (p + n)) (p + n) w hs (by omega)
  generalize Cs.sh (p + n) (Cs.beh (s.data.toList.drop (p + n)) (s.extract p (p + n)).data.toList) = P at *
  have HE := Lib.hid he
  have HBE : Hid (∀ (q : Int) x w, q = p + n → x = s.extract p (p + n) → Calls Try.prog 29 #[.string s, .int .i64 q, .string x] w fun e w' => e = .returned (pv P) ∧ Below w.heap.size w w') := fun q x w hq hx => by
    subst hq; subst hx; have := hbe w; simpa using this
  have hdec : (if h : p < s.size then ((s[p].toNat : Int) == 34) else false) = false := by
    split
    · rename_i h
      rw [beq_eq_false_iff_ne]
      intro e
      refine hh ?_
      rw [drop_cons s p h]
      have : s[p] = 34 := UInt8.toNat_inj.1 (by have : (34 : UInt8).toNat = 34 := rfl; omega)
      rw [this]; rfl
    · rfl
  have HIA := Lib.hid hia
  clear hia he hbe hx hh hn
  by_cases hps : p < s.size
  · rw [dif_pos hps] at hdec
    by_cases hlt : n < s.size - p
    · rw [if_pos hlt] at HIA
      go_enter Try.func25, Try.ntmps25
      go_wp2_with (first
        | (go_at_call 27; refine (HIA.out _).mono ?_; rintro e w1 ⟨rfl, hb1⟩)
        | (go_at_call 29; refine (HBE.out _ _ _ (by omega) (by first | rfl | (congr 1; omega))).mono ?_; rintro e w2 ⟨rfl, hb2⟩; obtain ⟨z1, z2, z3, z4⟩ := Z0.cells (((hb2.block w.heap.size (by have := hb1.size; simp at this; omega)).trans ((hb1.block w.heap.size (by simp)).trans (heap_alloc_new w _))) : Z0 w2 w.heap.size)))
      have hB2 : Below w.heap.size w w2 := (((Below.refl _ w).alloc (Nat.le_refl _) _).trans (hb1.mono (by simp))).trans (hb2.mono (by have := hb1.size; simp at this; omega))
      rw [HE.out]
      exact bodyPost_ret (v := pv P) (by simp [results, Try.results25, go_sem, z1, z2, z3]) rfl ⟨rfl, below_set3 hB2 _ _ _⟩
    · rw [if_neg hlt] at HIA
      go_enter Try.func25, Try.ntmps25
      go_wp2_with (first
        | (go_at_call 27; refine (HIA.out _).mono ?_; rintro e w1 ⟨rfl, hb1⟩)
        | (go_at_call 29; refine (HBE.out _ _ _ (by omega) (by first | rfl | (congr 1; omega))).mono ?_; rintro e w2 ⟨rfl, hb2⟩; obtain ⟨z1, z2, z3, z4⟩ := Z0.cells (((hb2.block w.heap.size (by have := hb1.size; simp at this; omega)).trans ((hb1.block w.heap.size (by simp)).trans (heap_alloc_new w _))) : Z0 w2 w.heap.size)))
      have hB2 : Below w.heap.size w w2 := (((Below.refl _ w).alloc (Nat.le_refl _) _).trans (hb1.mono (by simp))).trans (hb2.mono (by have := hb1.size; simp at this; omega))
      rw [HE.out]
      exact bodyPost_ret (v := pv P) (by simp [results, Try.results25, go_sem, z1, z2, z3]) rfl ⟨rfl, below_set3 hB2 _ _ _⟩
  · rw [dif_neg hps] at hdec
    rw [if_neg (by omega)] at HIA
    go_enter Try.func25, Try.ntmps25
    go_wp2_with (first
      | (go_at_call 27; refine (HIA.out _).mono ?_; rintro e w1 ⟨rfl, hb1⟩)
      | (go_at_call 29; refine (HBE.out _ _ _ (by omega) (by first | rfl | (congr 1; omega))).mono ?_; rintro e w2 ⟨rfl, hb2⟩; obtain ⟨z1, z2, z3, z4⟩ := Z0.cells (((hb2.block w.heap.size (by have := hb1.size; simp at this; omega)).trans ((hb1.block w.heap.size (by simp)).trans (heap_alloc_new w _))) : Z0 w2 w.heap.size)))
    have hB2 : Below w.heap.size w w2 := (((Below.refl _ w).alloc (Nat.le_refl _) _).trans (hb1.mono (by simp))).trans (hb2.mono (by have := hb1.size; simp at this; omega))
    rw [HE.out]
    exact bodyPost_ret (v := pv P) (by simp [results, Try.results25, go_sem, z1, z2, z3]) rfl ⟨rfl, below_set3 hB2 _ _ _⟩

/-- csv.field: the field at a place, what stands behind it, and the place behind that -/
theorem field_any (s : ByteArray) (p : Nat) (w : World) (hs : s.size ≤ 4294967280) (hp : p ≤ s.size) :
    Calls Try.prog 25 #[.string s, .int .i64 (p : Int)] w fun e w' => e = .returned (pv (Cs.sh p (Cs.fld (s.data.toList.drop p)))) ∧ Below w.heap.size w w' := by
  by_cases h : (s.data.toList.drop p).head? = some 34
  · by_cases hps : p < s.size
    · rw [drop_cons s p hps] at h
      exact field_quo s p w hs hps (by simpa using h)
    · rw [List.drop_eq_nil_of_le (by rw [len_data]; omega)] at h; simp at h
  · exact field_plain s p _ w hs hp h rfl

end Go.Proofs.Ytnljlbhknbjinaa
