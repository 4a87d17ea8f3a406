/-
  strings.IndexAny and ContainsAny at the four bytes that end a plain field, for every text shorter than 2^32 - 15 bytes: the first place of such a byte.
-/
import Derived.Test.YtnljlbhknbjinaaKit
import Derived.Test.YtnljlbhknbjinaaShelfS
import Derived.Deep.LoopGhost
import Derived.Deep.QuietTactic
import Derived.BigQuiet
import Derived.Lib.Walk
import Derived.Lib.OthersKept
import Derived.Lib.IndexAny
namespace Go.Proofs.Ytnljlbhknbjinaa
open Go.RowKit Go.Lib

/-- the four bytes -/
def four4 : ByteArray := ⟨#[44, 34, 13, 10]⟩
theorem four4_ascii : ∀ b ∈ four4.data.toList, b.toNat < 128 := by decide

theorem indexByte_high (s : ByteArray) (a e : Nat) (c : UInt8) (hs : ∀ b ∈ s.data.toList, b.toNat < 128) (hc : 128 ≤ c.toNat) : Lib.indexByte (s.extract a e).data.toList c = -1 := by
  rw [← Lib.firstIdx_eq]; exact firstIdx_ascii s a e c hs hc

theorem ib_high (a e : Nat) (c : UInt8) (hc : 128 ≤ c.toNat) (w : World) :
    Calls Try.prog 36 #[.string (four4.extract a e), .int .u8 (c.toNat : Int)] w fun e w' => e = .returned (.int .i64 (-1)) ∧ w = w' := by
  refine (Try.strings_IndexByte _ _ _).mono ?_
  rintro e' w' ⟨rfl, rfl⟩
  refine ⟨ret_i ?_, rfl⟩
  rw [show ((c.toNat : Int)).toNat.toUInt8 = c from by simp]
  exact indexByte_high four4 a e c four4_ascii hc

set_option maxHeartbeats 2000000 in
set_option maxRecDepth 100000 in
/-- a rune that no ASCII byte begins: none of the four -/
theorem irune_high (r : Int) (w : World) (h0 : 128 ≤ r) (h1 : r ≤ 2147483647) :
    Calls Try.prog 31 #[.string four4, .int .i32 r] w fun e w' => e = .returned (.int .i64 (-1)) ∧ Below w.heap.size w w' := by
  have hsz : four4.size = 4 := rfl
  have e0 : ¬ (r < 128) := by omega
  by_cases he : r = 65533
  · subst he
    have HC := Lib.hid four4_ascii
    go_enter Try.func31, Try.ntmps31
    go_wp2_with fail
    go_loopg [] 4 (fun g wx => ∃ i : Nat, i + g = 4 ∧ wx = w.iter four4 i)
    case atStart => exact ⟨0, by omega, rfl⟩
    case round =>
      obtain ⟨i, hig, rfl⟩ := hrel
      cases gk with
      | zero =>
        obtain rfl : i = 4 := by omega
        have hnx := run_next_end (P := Try.prog) w four4 4
        go_wp2
        go_ret
        exact ⟨rfl, (Below.refl _ _).alloc (Nat.le_refl _) _⟩
      | succ g =>
        have hi : i < four4.size := by rw [hsz]; omega
        obtain ⟨x, hx⟩ : ∃ x : UInt8, four4[i]'hi = x := ⟨_, rfl⟩
        have hx128 : x.toNat < 128 := HC.out x (by rw [← hx]; exact List.getElem_mem _)
        have hnx := fun ty => run_next_ascii (P := Try.prog) w four4 i ty hi (by rw [hx]; exact hx128)
        rw [hx] at hnx
        clear hx
        go_wp2
        go_roundg g
        case measure => omega
        case rel => exact ⟨i + 1, by omega, rfl⟩
  · have he' : (r == 65533) = false := by simpa using he
    cases hv : Lib.validRune r
    · go_enter Try.func31, Try.ntmps31
      go_wp2_with (go_at_call 37; refine (Try.utf8_ValidRune _ _).mono ?_; rintro e w' ⟨rfl, hw⟩; rw [hw, hv])
      go_ret
      exact ⟨rfl, Below.refl _ _⟩
    · obtain ⟨f1, f2, f3⟩ := encode_facts r (by rw [validRune_eq]; exact hv) h0
      go_enter Try.func31, Try.ntmps31
      go_wp2_with (go_at_call 37; refine (Try.utf8_ValidRune _ _).mono ?_; rintro e w' ⟨rfl, hw⟩; rw [hw, hv])
      go_step3
      go_wp2_with fail
      generalize Utf8.encode r = E at *
      have hl : E.size - 1 < E.size := by omega
      have hl4 : E.size - 1 < four4.size := by omega
      have g1 := f3 hl
      have g2 := four4_ascii (four4[E.size - 1]'hl4) (List.getElem_mem _)
      have hne : (((four4[E.size - 1]'hl4).toNat : Int) != ((E[E.size - 1]'hl).toNat : Int)) = true := by simp; omega
      have G1 := Lib.hid g1
      clear f3 g1 g2
      refine wp_loop_rounds 1 ?_
      rw [rounds_succ]
      go_wp2_with (go_at_call 36; refine (ib_high _ _ _ G1.out _).mono ?_; rintro e w' ⟨rfl, rfl⟩)
      go_step3
      go_wp2_with fail
      have k1 : (1 : Int) ≤ (E.size : Int) := by omega
      have k2 : (E.size : Int) - 1 < 4 := by omega
      have k3 : (E.size : Int) - 1 < E.size := by omega
      have k4 : (0 : Int) ≤ (E.size : Int) - 1 + 1 := by omega
      have k5 : (E.size : Int) - 1 + 1 ≤ 4 := by omega
      have k6 : IntKind.i64.wrap (E.size : Int) = (E.size : Int) := IntWalk.i64_in _ (by omega)
      have k7 : (E.size : Int) ≤ 4 := by omega
      have k8 : (0 : Int) ≤ (E.size : Int) := by omega
      go_region
      go_wp2_with fail
      go_region_with (go_at_call 36; refine (ib_high _ _ _ G1.out _).mono ?_; rintro e w' ⟨rfl, rfl⟩)
      go_wp2
      rw [Exit.noGoto_ret]
      go_wp2
      rw [Exit.noGoto_ret]
      go_ret
      exact ⟨rfl, (Below.refl _ _).drew.drew⟩

theorem irune_low (x : UInt8) (hx : x.toNat < 128) (w : World) :
    Calls Try.prog 31 #[.string four4, .int .i32 (x.toNat : Int)] w fun e w' => e = .returned (.int .i64 (Lib.indexByte four4.data.toList x)) ∧ w = w' := by
  refine (Try.strings_IndexRune_ascii _ _ _ (by omega) (by omega)).mono ?_
  rintro e w' ⟨rfl, rfl⟩
  exact ⟨ret_i (by rw [show ((x.toNat : Int)).toNat.toUInt8 = x from by simp]), rfl⟩

theorem decode_cont (s : ByteArray) (pos k : Nat) (h1 : 1 ≤ k) (h2 : k < (Utf8.decode s pos).2) : pos + k < s.size ∧ 128 ≤ (s.get! (pos + k)).toNat := by
  have key : ∀ (n : Nat), (decide (pos + n < s.size) && ((s.get! (pos + n)).toNat / 64 == 2)) = true → pos + n < s.size ∧ 128 ≤ (s.get! (pos + n)).toNat := by
    intro n hn
    simp only [Bool.and_eq_true, decide_eq_true_eq, beq_iff_eq] at hn
    exact ⟨hn.1, by omega⟩
  unfold Utf8.decode at h2
  simp only at h2
  split at h2
  · simp at h2; omega
  · split at h2
    · rename_i hc
      simp only [Bool.and_eq_true] at hc
      split at h2
      · have : k = 1 := by simp at h2; omega
        subst this; exact key 1 (by simpa using hc.2)
      · simp at h2; omega
    · split at h2
      · rename_i hc
        simp only [Bool.and_eq_true] at hc
        split at h2
        · rcases (show k = 1 ∨ k = 2 by simp at h2; omega) with e | e <;> subst e
          · exact key 1 (by simpa using hc.1.2)
          · exact key 2 (by simpa using hc.2)
        · simp at h2; omega
      · split at h2
        · rename_i hc
          simp only [Bool.and_eq_true] at hc
          split at h2
          · rcases (show k = 1 ∨ k = 2 ∨ k = 3 by simp at h2; omega) with e | e | e <;> subst e
            · exact key 1 (by simpa using hc.1.1.2)
            · exact key 2 (by simpa using hc.1.2)
            · exact key 3 (by simpa using hc.2)
          · simp at h2; omega
        · simp at h2; omega

theorem high_notin {x : UInt8} (h : 128 ≤ x.toNat) : four4.data.toList.contains x = false := by
  have : x ∉ four4.data.toList := fun hm => by have := four4_ascii x hm; omega
  simpa using this

theorem noAny_skip {s : ByteArray} {i : Nat} (hi : i < s.size) (hx : 128 ≤ (s[i]'hi).toNat) (h : Lib.NoAny s.data.toList four4.data.toList i) :
    i + (Utf8.decode s i).2 ≤ s.size ∧ Lib.NoAny s.data.toList four4.data.toList (i + (Utf8.decode s i).2) := by
  refine ⟨?_, fun j b hj hb => ?_⟩
  · rcases Nat.lt_or_ge 1 (Utf8.decode s i).2 with h1 | h1
    · have := (decode_cont s i ((Utf8.decode s i).2 - 1) (by omega) (by omega)).1; omega
    · omega
  · by_cases h1 : j < i
    · exact h j b h1 hb
    · have hjs : j < s.size := by
        have := (List.getElem?_eq_some_iff.1 hb).1
        rw [len_data] at this; exact this
      have hb' : s[j] = b := by
        have := Lib.data_getElem? s j hjs
        rw [this] at hb; exact Option.some.inj hb
      by_cases h2 : j = i
      · subst h2; rw [← hb']; exact high_notin hx
      · have hc := decode_cont s i (j - i) (by omega) (by omega)
        rw [show i + (j - i) = j from by omega] at hc
        have e : s.get! j = s[j] := by
          show s.get! j = _
          simp [ByteArray.get!, getElem!_pos, hjs]; rfl
        rw [e, hb'] at hc
        exact high_notin hc.2

set_option maxHeartbeats 2000000 in
set_option maxRecDepth 100000 in
theorem indexAny_short (s : ByteArray) (w : World) (h8 : s.size ≤ 8) :
    Calls Try.prog 27 #[.string s, .string four4] w fun e w' => e = .returned (.int .i64 (Lib.indexAny s.data.toList four4.data.toList)) ∧ Below w.heap.size w w' := by
  have hemp : four4.toList.isEmpty = false := by rw [ByteArray.toList_eq]; rfl
  have hsz : four4.size = 4 := rfl
  have h8z : decide ((8 : Int) < (s.size : Int)) = false := decide_eq_false (by omega)
  go_enter Try.func27, Try.ntmps27
  go_wp2_with (go_at_call 32; refine (Try.strings_shouldUseASCIISet _ _).mono ?_; rintro e w' ⟨rfl, hw⟩; rw [hw, h8z])
  have hit0 : (w.iter s 0).heap[w.heap.size]? = some (.stringIter s 0) := World.iter_heap _ _ _
  have hbl0 : Below w.heap.size w (w.iter s 0) := (Below.refl _ _).alloc (Nat.le_refl _) _
  generalize w.iter s 0 = W at *
  go_loopg [] s.size (fun g wx => ∃ i : Nat, i ≤ s.size ∧ s.size - i ≤ g ∧ wx.heap[w.heap.size]? = some (.stringIter s i) ∧ Below w.heap.size w wx ∧ Hid (Lib.NoAny s.data.toList four4.data.toList i))
  case atStart => exact ⟨0, by omega, by omega, hit0, hbl0, Lib.NoAny.zero _ _⟩
  case round =>
    clear hit0 hbl0
    obtain ⟨i, hi0, hig, hit, hbl, HN⟩ := hrel
    by_cases hi : i < s.size
    · by_cases hx : (s[i]'hi).toNat < 128
      · obtain ⟨x, hxx⟩ : ∃ x : UInt8, s[i]'hi = x := ⟨_, rfl⟩
        have hxl : s.data.toList[i]? = some x := by rw [← hxx]; exact Lib.data_getElem? s i hi
        have hnx := fun ty => Lib.run_next_ascii_at (P := Try.prog) wr w.heap.size s i ty hit hi hx
        rw [hxx] at hnx hx
        have Hx := Lib.hid hxl
        clear hxl hxx
        have hih := Lib.iterAt_heap wr w.heap.size s i (i + 1) hit
        have hbl2 := Lib.below_iterAt hbl (Nat.le_refl _) s (i + 1)
        generalize wr.iterAt w.heap.size s (i + 1) = W2 at *
        have hcon := Lib.contains_iff_indexByte four4.data.toList x
        cases hin : four4.data.toList.contains x
        · rw [hin] at hcon
          have hlt : ¬ ((0 : Int) ≤ Lib.indexByte four4.data.toList x) := of_decide_eq_false hcon.symm
          have HI := Lib.hid hin
          clear hcon hin
          go_wp2_with (go_at_call 31; refine (irune_low x hx _).mono ?_; rintro e w' ⟨rfl, rfl⟩)
          go_roundg (s.size - (i + 1))
          case measure => omega
          case rel => exact ⟨i + 1, by omega, by omega, hih, hbl2, HN.out.succ Hx.out HI.out⟩
        · rw [hin] at hcon
          have hge : (0 : Int) ≤ Lib.indexByte four4.data.toList x := of_decide_eq_true hcon.symm
          have HI := Lib.hid hin
          clear hcon hin
          go_wp2_with (go_at_call 31; refine (irune_low x hx _).mono ?_; rintro e w' ⟨rfl, rfl⟩)
          go_ret
          exact ⟨ret_i (by rw [Lib.indexAny_hit HN.out Hx.out HI.out]), hbl2⟩
      · have hdl := decode_le s i
        have hdh := decode_high s i hi (by omega)
        have hsk := noAny_skip hi (by omega) HN.out
        have hnx := fun ty => Lib.run_next_any_at (P := Try.prog) wr w.heap.size s i ty hit hi
        have hih := Lib.iterAt_heap wr w.heap.size s i (i + (Utf8.decode s i).2) hit
        have hbl2 := Lib.below_iterAt hbl (Nat.le_refl _) s (i + (Utf8.decode s i).2)
        generalize wr.iterAt w.heap.size s (i + (Utf8.decode s i).2) = W2 at *
        obtain ⟨r, hr⟩ : ∃ r, r = (Utf8.decode s i).1 := ⟨_, rfl⟩
        obtain ⟨d, hd⟩ : ∃ d, d = (Utf8.decode s i).2 := ⟨_, rfl⟩
        rw [← hr] at hdl hdh hnx
        rw [← hd] at hdh hsk hih
        have HS := Lib.hid hsk.2
        have hs1 := hsk.1
        clear hsk hr hd hx
        have hr1 := hdh.1
        have hd1 := hdh.2
        clear hdh
        have hih3 : W2.heap.size = W2.heap.size := rfl
        go_wp2_with (go_at_call 31; refine (irune_high (r : Int) _ (by omega) (by omega)).mono ?_; rintro e w' ⟨rfl, hb⟩)
        go_roundg (s.size - (i + d))
        case measure => omega
        case rel =>
          have hlt : w.heap.size < W2.heap.size := (Array.getElem?_eq_some_iff.1 hih).1
          exact ⟨i + d, hs1, by omega, (hb.block _ hlt).trans hih, hbl2.trans (hb.mono hbl2.size), HS.out⟩
    · have hnx := fun ty => Lib.run_next_end_at (P := Try.prog) wr w.heap.size s i ty hit hi
      go_wp2
      go_ret
      obtain rfl : i = s.size := by omega
      exact ⟨ret_i (by rw [Lib.indexAny_none (by rw [len_data]; exact HN.out)]), by assumption⟩

end Go.Proofs.Ytnljlbhknbjinaa
