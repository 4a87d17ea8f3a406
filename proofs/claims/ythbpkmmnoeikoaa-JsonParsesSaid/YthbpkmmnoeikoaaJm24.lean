/-
  Several texts in one, each with its own head below. Conditions: as each says.
-/
import Derived.Test.YthbpkmmnoeikoaaJm04
import Derived.Test.YthbpkmmnoeikoaaUtfRGetJm
/-
  The reference's sixteen, Unit, escape: what an escape means. Condition: texts shorter than 2^32 bytes.
-/
namespace Go.Proofs.Ythbpkmmnoeikoaa
open Go Go.RowKit
set_option linter.unusedVariables false
set_option linter.unusedSimpArgs false

set_option maxRecDepth 100000 in
theorem sixteen_any (c : UInt8) (w : World) : Calls Try.prog 116 #[.int .u8 (c.toNat : Int)] w fun e w' => e = .returned (.int .i64 (optI (Tk.hex c))) ∧ w' = w := by
  have hc := c.toNat_lt
  unfold Tk.hex
  by_cases h1 : 48 ≤ c.toNat ∧ c.toNat ≤ 57
  · rw [if_pos h1]
    have e : optI (some (c.toNat - 48)) = (c.toNat : Int) - 48 := by show ((c.toNat - 48 : Nat) : Int) = _; omega
    rw [e]
    go_enter Try.func116, Try.ntmps116
    go_wp2
    go_ret
    exact ⟨rfl, rfl⟩
  · rw [if_neg h1]
    by_cases h2 : 97 ≤ c.toNat ∧ c.toNat ≤ 102
    · rw [if_pos h2]
      have e : optI (some (c.toNat - 87)) = (c.toNat : Int) - 87 := by show ((c.toNat - 87 : Nat) : Int) = _; omega
      rw [e]
      go_enter Try.func116, Try.ntmps116
      go_wp2
      go_ret
      exact ⟨rfl, rfl⟩
    · rw [if_neg h2]
      by_cases h3 : 65 ≤ c.toNat ∧ c.toNat ≤ 70
      · rw [if_pos h3]
        have e : optI (some (c.toNat - 55)) = (c.toNat : Int) - 55 := by show ((c.toNat - 55 : Nat) : Int) = _; omega
        rw [e]
        go_enter Try.func116, Try.ntmps116
        go_wp2
        go_ret
        exact ⟨rfl, rfl⟩
      · rw [if_neg h3]
        rcases (by omega : c.toNat < 48 ∨ (57 < c.toNat ∧ c.toNat < 65) ∨ (70 < c.toNat ∧ c.toNat < 97) ∨ 102 < c.toNat) with h | h | h | h <;>
        · go_enter Try.func116, Try.ntmps116
          go_wp2
          go_ret
          exact ⟨rfl, rfl⟩

def UnR (l : List UInt8) (w0 : World) (a i : Value) (w : World) : Prop :=
  ∃ k acc : Nat, k ≤ 4 ∧ i = .int .i64 ((k : Int) + 2) ∧ a = .int .i64 (acc : Int) ∧ acc < 16 ^ k ∧ w = w0 ∧ Hid (Tk.hexs 4 l 0 = Tk.hexs (4 - k) (l.drop k) acc)

set_option maxRecDepth 100000 in
set_option maxHeartbeats 2000000 in
theorem runit_any (s : ByteArray) (a : Nat) (w : World) (hs : s.size ≤ 4294967280) (ha : a ≤ s.size + 12) :
    Calls Try.prog 110 #[.string s, .int .i64 (a : Int)] w fun e w' => e = .returned (.int .i64 (optI (Tk.unit (s.data.toList.drop a)))) ∧ w' = w := by
  by_cases h6 : s.size < a + 6
  · have hu : Tk.unit (s.data.toList.drop a) = none := by
      cases h : Tk.unit (s.data.toList.drop a) with
      | none => rfl
      | some r =>
        have := (unit_bound h).2
        rw [List.length_drop, len_data] at this; omega
    rw [hu]
    have t0 : decide ((a : Int) + 6 > (s.size : Int)) = true := decide_eq_true (by omega)
    go_enter Try.func110, Try.ntmps110
    go_wp2
    go_ret
    exact ⟨rfl, rfl⟩
  · have t0 : decide ((a : Int) + 6 > (s.size : Int)) = false := decide_eq_false (by omega)
    have hd1 : s.data.toList.drop a = s[a] :: s.data.toList.drop (a + 1) := (List.getElem_cons_drop (by rw [len_data]; omega)).symm
    have hd2 : s.data.toList.drop (a + 1) = s[a + 1] :: s.data.toList.drop (a + 2) := (List.getElem_cons_drop (by rw [len_data]; omega)).symm
    have hu : Tk.unit (s.data.toList.drop a) = if s[a] = 92 ∧ s[a + 1] = 117 then Tk.hexs 4 (s.data.toList.drop (a + 2)) 0 else none := by
      unfold Tk.unit
      rw [List.drop_drop]
      rw [show (s.data.toList.drop a).head? = some s[a] by rw [hd1]; rfl, show (s.data.toList.drop a).tail.head? = some s[a + 1] by rw [hd1]; show (s.data.toList.drop (a + 1)).head? = _; rw [hd2]; rfl]
      simp only [Option.some.injEq]
    rw [hu]
    clear hu hd1 hd2
    have hsx := s[a].toNat_lt
    have hsy := s[a + 1].toNat_lt
    by_cases h1 : s[a] = 92
    · have t1 : ((s[a].toNat : Int) != 92) = false := by rw [h1]; rfl
      by_cases h2 : s[a + 1] = 117
      · have t2 : ((s[a + 1].toNat : Int) != 117) = false := by rw [h2]; rfl
        rw [if_pos ⟨h1, h2⟩]
        obtain ⟨r, hr⟩ : ∃ r, r = Tk.hexs 4 (s.data.toList.drop (a + 2)) 0 := ⟨_, rfl⟩
        rw [← hr]
        have HR := Lib.hid hr
        clear hr h1 h2 hsx hsy
        go_enter Try.func110, Try.ntmps110
        go_wp2
        go_loopw [5, 6] (UnR (s.data.toList.drop (a + 2)) w) (fun _ i _ => 6 - (intOf i).toNat)
        case atStart => exact ⟨0, 0, by omega, by go_num, by go_num, by simp, rfl, by unfold Hid; simp⟩
        case round =>
          obtain ⟨k, acc, hk, rfl, rfl, hacc, rfl, HX⟩ := hrel
          by_cases hk4 : k < 4
          · have tk : decide ((k : Int) + 2 < 6) = true := decide_eq_true (by omega)
            have hks : a + (k + 2) < s.size := by omega
            have hd : (s.data.toList.drop (a + 2)).drop k = s[a + (k + 2)] :: (s.data.toList.drop (a + 2)).drop (k + 1) := by
              rw [List.drop_drop, List.drop_drop, show a + 2 + k = a + (k + 2) by omega, show a + 2 + (k + 1) = a + (k + 2) + 1 by omega]
              exact (List.getElem_cons_drop (by rw [len_data]; exact hks)).symm
            have hx := HX.out
            rw [show 4 - k = (4 - (k + 1)) + 1 by omega, hd, Tk.hexs] at hx
            have HS := Lib.hid (fun W => sixteen_any s[a + (k + 2)] W)
            have i1 : (0 : Int) ≤ (a : Int) + ((k : Int) + 2) := by omega
            have i2 : (a : Int) + ((k : Int) + 2) < (s.size : Int) := by omega
            have h16 : acc < 16 ^ 3 := Nat.lt_of_lt_of_le hacc (Nat.pow_le_pow_right (by decide) (by omega))
            clear hd
            cases hh : Tk.hex s[a + (k + 2)] with
            | none =>
              rw [hh] at hx HS
              obtain rfl : r = none := HR.out.trans (HX.out.trans (HX.out.symm.trans hx))
              change Hid (∀ W, Calls _ _ _ W fun e w' => e = .returned (.int .i64 (-1)) ∧ w' = W) at HS
              clear hx HX HR hh
              go_wp2_with (go_at_call 116; with_reducible refine (HS.out _).mono ?_; rintro e w1 ⟨rfl, rfl⟩)
              go_ret
              exact ⟨rfl, rfl⟩
            | some d =>
              rw [hh] at hx HS
              dsimp only at hx
              have HY : Hid (Tk.hexs 4 (s.data.toList.drop (a + 2)) 0 = Tk.hexs (4 - (k + 1)) ((s.data.toList.drop (a + 2)).drop (k + 1)) (acc * 16 + d)) := HX.out.trans (HX.out.symm.trans hx)
              change Hid (∀ W, Calls _ _ _ W fun e w' => e = .returned (.int .i64 (d : Int)) ∧ w' = W) at HS
              have hd16 : d < 16 := by
                unfold Tk.hex at hh
                split at hh
                · cases hh; omega
                · split at hh
                  · cases hh; omega
                  · split at hh
                    · cases hh; omega
                    · cases hh
              clear hx HX hh
              go_wp2_with (go_at_call 116; with_reducible refine (HS.out _).mono ?_; rintro e w1 ⟨rfl, rfl⟩)
              go_roundw
              case rel => exact ⟨k + 1, acc * 16 + d, by omega, by go_num, by go_num, by rw [Nat.pow_succ]; omega, rfl, HY⟩
              case measure => simp [intOf]; omega
          · obtain rfl : k = 4 := by omega
            have hx := HX.out
            simp only [Nat.sub_self, Tk.hexs] at hx
            obtain rfl : r = some acc := HR.out.trans hx
            clear hx HX HR
            go_wp2
            go_ret
            exact ⟨rfl, rfl⟩
      · have t2 : ((s[a + 1].toNat : Int) != 117) = true := by rw [bne_iff_ne]; intro e; exact h2 (UInt8.toNat_inj.1 (by have : (117 : UInt8).toNat = 117 := rfl; omega))
        rw [if_neg (fun h => h2 h.2)]
        clear h1 h2
        go_enter Try.func110, Try.ntmps110
        go_wp2
        go_ret
        exact ⟨rfl, rfl⟩
    · have t1 : ((s[a].toNat : Int) != 92) = true := by rw [bne_iff_ne]; intro e; exact h1 (UInt8.toNat_inj.1 (by have : (92 : UInt8).toNat = 92 := rfl; omega))
      rw [if_neg (fun h => h1 h.1)]
      clear h1
      go_enter Try.func110, Try.ntmps110
      go_wp2
      go_ret
      exact ⟨rfl, rfl⟩

/-- a conversion of a code's bytes, by the reference's Put -/
theorem rput_str (c : Nat) (h : Uf.code c = true) (w : World) : Calls Try.prog 63 #[.int .i64 (c : Int)] w fun e w' => ∃ v, e = .returned v ∧ (convert 67 9 v).run Try.prog w' = .ok (str (Uf.put c)) w' ∧ Below w.heap.size w w' := by
  refine (rput_any (c : Int) w).mono ?_
  rintro e w' ⟨v, rfl, hv, hb⟩
  rw [putI_code c h] at hv
  exact ⟨v, rfl, conv_back hv (put_ne c h), hb⟩
def simpleB (c : UInt8) : Bool := (Tk.simple c).isSome

set_option maxRecDepth 100000 in
set_option maxHeartbeats 4000000 in
/-- from the escape of four digits on; `t`s: the switch has no arm for the byte behind -/
theorem ruesc_walk (s : ByteArray) (a : Nat) (w : World) (hs : s.size ≤ 4294967280) (ha : a < s.size)
    (hq : s.size ≤ a + 1 ∨ ∃ h : a + 1 < s.size, Tk.simple s[a + 1] = none) :
    Calls Try.prog 95 #[.string s, .int .i64 (a : Int)] w fun e w' => e = .returned (escV (Tk.uesc (s.data.toList.drop a))) ∧ Below w.heap.size w w' := by
  have HU := Lib.hid (fun W => runit_any s a W hs (by omega))
  have HV := Lib.hid (fun W => runit_any s (a + 6) W hs (by omega))
  obtain ⟨r, hr⟩ : ∃ r, r = Tk.uesc (s.data.toList.drop a) := ⟨_, rfl⟩
  rw [← hr]
  have hce : ((a + 6 : Nat) : Int) = (a : Int) + 6 := by omega
  rw [hce] at HV
  have hq2 : (s.size ≤ a + 1) ∨ (∃ h : a + 1 < s.size, ((s[a + 1].toNat : Int) == 34) = false ∧ ((s[a + 1].toNat : Int) == 92) = false ∧ ((s[a + 1].toNat : Int) == 47) = false ∧ ((s[a + 1].toNat : Int) == 98) = false ∧ ((s[a + 1].toNat : Int) == 102) = false ∧ ((s[a + 1].toNat : Int) == 110) = false ∧ ((s[a + 1].toNat : Int) == 114) = false ∧ ((s[a + 1].toNat : Int) == 116) = false) := by
    rcases hq with h | ⟨h, hn⟩
    · exact .inl h
    · right
      refine ⟨h, ?_⟩
      have key : ∀ n : Nat, n < 256 → Tk.simple (UInt8.ofNat n) = none → n ≠ 34 ∧ n ≠ 92 ∧ n ≠ 47 ∧ n ≠ 98 ∧ n ≠ 102 ∧ n ≠ 110 ∧ n ≠ 114 ∧ n ≠ 116 := by decide +kernel
      have := key s[a + 1].toNat s[a + 1].toNat_lt (by simpa using hn)
      simp only [beq_eq_false_iff_ne, ne_eq]
      omega
  clear hq
  unfold Tk.uesc at hr
  rw [List.drop_drop] at hr
  have hsz : Tk.unit (s.data.toList.drop a) ≠ none → a + 6 ≤ s.size := fun h => by
    cases hx : Tk.unit (s.data.toList.drop a) with
    | none => exact absurd hx h
    | some c =>
      have := (unit_bound hx).2
      rw [List.length_drop, len_data] at this; omega
  cases hu : Tk.unit (s.data.toList.drop a) with
  | none =>
    rw [hu] at HU hr
    subst hr
    change Hid (∀ W, Calls _ _ _ W fun e w' => e = .returned (.int .i64 (-1)) ∧ w' = W) at HU
    clear hu hsz HV
    rcases hq2 with hq | ⟨hlt, y1, y2, y3, y4, y5, y6, y7, y8⟩
    · have t0 : decide ((a : Int) + 1 < (s.size : Int)) = false := decide_eq_false (by omega)
      go_enter Try.func95, Try.ntmps95
      go_wp2_with (first | (go_at_call 110; with_reducible refine (HU.out _).mono ?_; rintro e w1 ⟨rfl, rfl⟩))
      go_ret2
      exact ⟨rfl, Below.refl _ _⟩
    · have t0 : decide ((a : Int) + 1 < (s.size : Int)) = true := decide_eq_true (by omega)
      go_enter Try.func95, Try.ntmps95
      go_wp2_with (first | (go_at_call 110; with_reducible refine (HU.out _).mono ?_; rintro e w1 ⟨rfl, rfl⟩))
      go_ret2
      exact ⟨rfl, Below.refl _ _⟩
  | some c =>
    have hl6 := hsz (by rw [hu]; simp)
    rw [hu] at HU hr
    have hcb := (unit_bound hu).1
    dsimp only at hr
    obtain ⟨hlt, y1, y2, y3, y4, y5, y6, y7, y8⟩ := hq2.resolve_left (by omega)
    have t0 : decide ((a : Int) + 1 < (s.size : Int)) = true := decide_eq_true (by omega)
    change Hid (∀ W, Calls _ _ _ W fun e w' => e = .returned (.int .i64 (c : Int)) ∧ w' = W) at HU
    clear hu hsz hq2
    have HCo := Lib.hid (fun W => rcode_any (c : Int) W)
    rw [codeI_nat] at HCo
    obtain ⟨z, hz⟩ : ∃ z : Int, z = (c : Int) := ⟨_, rfl⟩
    have hz0 : 0 ≤ z := by omega
    have hz1 : z ≤ 65535 := by omega
    cases hcd : Uf.code c with
    | true =>
      rw [hcd, if_pos rfl] at hr
      rw [hcd] at HCo
      subst hr
      have HP := Lib.hid (fun W => rput_str c hcd W)
      rw [← hz] at HU HP HCo
      clear hcd hcb hz HV
      generalize Uf.put c = pp at *
      go_enter Try.func95, Try.ntmps95
      go_wp2_with (first | (go_at_call 110; with_reducible refine (HU.out _).mono ?_; rintro e w1 ⟨rfl, rfl⟩) | (go_at_call 110; with_reducible refine (HV.out _).mono ?_; rintro e w1 ⟨rfl, rfl⟩) | (go_at_call 89; with_reducible refine (HCo.out _).mono ?_; rintro e w1 ⟨rfl, rfl⟩) | (go_at_call 63; with_reducible refine (HP.out _).mono ?_; rintro e w2 ⟨v2, rfl, hcv, hb2⟩))
      go_ret2
      exact ⟨rfl, hb2⟩
    | false =>
      rw [hcd, if_neg (by simp)] at hr
      rw [hcd] at HCo
      have hco : 55296 ≤ c ∧ c ≤ 57343 := by unfold Uf.code at hcd; simp at hcd; omega
      have hz2 : 55296 ≤ z := by omega
      have hz3 : z ≤ 57343 := by omega
      rw [← hz] at HU HCo
      clear hcd
      by_cases h2 : 56320 ≤ c
      · rw [if_pos h2] at hr
        subst hr
        have tc : 56320 ≤ z := by omega
        obtain ⟨dv, hdv⟩ : ∃ dv, dv = optI (Tk.unit (s.data.toList.drop (a + 6))) := ⟨_, rfl⟩
        rw [← hdv] at HV
        clear h2 hco hcb hz hdv
        go_enter Try.func95, Try.ntmps95
        go_wp2_with (first | (go_at_call 110; with_reducible refine (HU.out _).mono ?_; rintro e w1 ⟨rfl, rfl⟩) | (go_at_call 110; with_reducible refine (HV.out _).mono ?_; rintro e w1 ⟨rfl, rfl⟩) | (go_at_call 89; with_reducible refine (HCo.out _).mono ?_; rintro e w1 ⟨rfl, rfl⟩))
        go_ret2
        exact ⟨rfl, Below.refl _ _⟩
      · rw [if_neg h2] at hr
        have tc : z < 56320 := by omega
        cases hd : Tk.unit (s.data.toList.drop (a + 6)) with
        | none =>
          rw [hd] at hr HV
          subst hr
          change Hid (∀ W, Calls _ _ _ W fun e w' => e = .returned (.int .i64 (-1)) ∧ w' = W) at HV
          clear hd h2 hco hcb hz
          go_enter Try.func95, Try.ntmps95
          go_wp2_with (first | (go_at_call 110; with_reducible refine (HU.out _).mono ?_; rintro e w1 ⟨rfl, rfl⟩) | (go_at_call 110; with_reducible refine (HV.out _).mono ?_; rintro e w1 ⟨rfl, rfl⟩) | (go_at_call 89; with_reducible refine (HCo.out _).mono ?_; rintro e w1 ⟨rfl, rfl⟩))
          go_ret2
          exact ⟨rfl, Below.refl _ _⟩
        | some d =>
          rw [hd] at hr HV
          dsimp only at hr
          have hdb := (unit_bound hd).1
          change Hid (∀ W, Calls _ _ _ W fun e w' => e = .returned (.int .i64 (d : Int)) ∧ w' = W) at HV
          obtain ⟨y, hy⟩ : ∃ y : Int, y = (d : Int) := ⟨_, rfl⟩
          have hy0 : 0 ≤ y := by omega
          have hy1 : y ≤ 65535 := by omega
          rw [← hy] at HV
          clear hd
          by_cases h3 : 56320 ≤ d ∧ d ≤ 57343
          · rw [if_pos h3] at hr
            subst hr
            have HP := Lib.hid (fun W => rput_str (65536 + (c - 55296) * 1024 + (d - 56320)) (by unfold Uf.code; simp; omega) W)
            have hce : ((65536 + (c - 55296) * 1024 + (d - 56320) : Nat) : Int) = 65536 + (z - 55296) * 1024 + y - 56320 := by omega
            rw [hce] at HP
            generalize Uf.put (65536 + (c - 55296) * 1024 + (d - 56320)) = pp at *
            have td : 56320 ≤ y := by omega
            have te : y ≤ 57343 := by omega
            clear h2 h3 hco hcb hdb hce hy hz
            go_enter Try.func95, Try.ntmps95
            go_wp2_with (first | (go_at_call 110; with_reducible refine (HU.out _).mono ?_; rintro e w1 ⟨rfl, rfl⟩) | (go_at_call 110; with_reducible refine (HV.out _).mono ?_; rintro e w1 ⟨rfl, rfl⟩) | (go_at_call 89; with_reducible refine (HCo.out _).mono ?_; rintro e w1 ⟨rfl, rfl⟩) | (go_at_call 63; with_reducible refine (HP.out _).mono ?_; rintro e w2 ⟨v2, rfl, hcv, hb2⟩))
            go_ret2
            exact ⟨rfl, hb2⟩
          · rw [if_neg h3] at hr
            subst hr
            have hyy : y < 56320 ∨ 57343 < y := by omega
            clear h2 h3 hco hcb hdb hy hz
            rcases hyy with h4 | h4
            · skip
              go_enter Try.func95, Try.ntmps95
              go_wp2_with (first | (go_at_call 110; with_reducible refine (HU.out _).mono ?_; rintro e w1 ⟨rfl, rfl⟩) | (go_at_call 110; with_reducible refine (HV.out _).mono ?_; rintro e w1 ⟨rfl, rfl⟩) | (go_at_call 89; with_reducible refine (HCo.out _).mono ?_; rintro e w1 ⟨rfl, rfl⟩))
              go_ret2
              exact ⟨rfl, Below.refl _ _⟩
            · skip
              go_enter Try.func95, Try.ntmps95
              go_wp2_with (first | (go_at_call 110; with_reducible refine (HU.out _).mono ?_; rintro e w1 ⟨rfl, rfl⟩) | (go_at_call 110; with_reducible refine (HV.out _).mono ?_; rintro e w1 ⟨rfl, rfl⟩) | (go_at_call 89; with_reducible refine (HCo.out _).mono ?_; rintro e w1 ⟨rfl, rfl⟩))
              go_ret2
              exact ⟨rfl, Below.refl _ _⟩

end Go.Proofs.Ythbpkmmnoeikoaa

/-
  The reference's escape and text: what stands in quotes. Condition: texts shorter than 2^32 bytes.
-/
namespace Go.Proofs.Ythbpkmmnoeikoaa
open Go Go.RowKit
set_option linter.unusedVariables false
set_option linter.unusedSimpArgs false

theorem ext_one2 (s : ByteArray) (k : Nat) (h : k < s.size) : s.extract k (k + 1) = bs [s[k]] := by
  apply ByteArray.ext
  apply Array.ext'
  rw [ext_take]
  rw [← List.getElem_cons_drop (show k < s.data.toList.length by rw [len_data]; exact h)]
  rfl

set_option maxRecDepth 100000 in
set_option maxHeartbeats 4000000 in
theorem rescape_any (s : ByteArray) (a : Nat) (w : World) (hs : s.size ≤ 4294967280) (ha : a < s.size) :
    Calls Try.prog 95 #[.string s, .int .i64 (a : Int)] w fun e w' => e = .returned (escV (Tk.esc (s.data.toList.drop a))) ∧ Below w.heap.size w w' := by
  have hd1 : s.data.toList.drop a = s[a] :: s.data.toList.drop (a + 1) := (List.getElem_cons_drop (by rw [len_data]; omega)).symm
  by_cases hlt : a + 1 < s.size
  · have hd2 : s.data.toList.drop (a + 1) = s[a + 1] :: s.data.toList.drop (a + 2) := (List.getElem_cons_drop (by rw [len_data]; omega)).symm
    have hes : Tk.esc (s.data.toList.drop a) = match Tk.simple s[a + 1] with | some x => some ([x], 2) | none => Tk.uesc (s.data.toList.drop a) := by
      unfold Tk.esc
      have : (s.data.toList.drop a).tail = s[a + 1] :: s.data.toList.drop (a + 2) := by rw [hd1]; exact hd2
      rw [this]
      rfl
    cases hsi : Tk.simple s[a + 1] with
    | none =>
      rw [hes, hsi]
      exact ruesc_walk s a w hs ha (.inr ⟨hlt, hsi⟩)
    | some x =>
      rw [hsi] at hes
      dsimp only at hes
      rw [hes]
      have t0 : decide ((a : Int) + 1 < (s.size : Int)) = true := decide_eq_true (by omega)
      have he1 := ext_one2 s (a + 1) hlt
      rw [show a + 1 + 1 = a + 2 by omega] at he1
      have hn := s[a + 1].toNat_lt
      have i1 : (0 : Int) ≤ (a : Int) + 1 := by omega
      have i2 : (a : Int) + 2 ≤ (s.size : Int) := by omega
      have key : ∀ n : Nat, n < 256 → (Tk.simple (UInt8.ofNat n)).isSome = true → n = 34 ∨ n = 92 ∨ n = 47 ∨ n = 98 ∨ n = 102 ∨ n = 110 ∨ n = 114 ∨ n = 116 := by decide +kernel
      have hk := key s[a + 1].toNat hn (by rw [show UInt8.ofNat s[a + 1].toNat = s[a + 1] by simp, hsi]; rfl)
      have hof : ∀ d : UInt8, s[a + 1].toNat = d.toNat → s[a + 1] = d := fun d h => UInt8.toNat_inj.1 h
      clear hes hd1 hd2 key
      rcases hk with h | h | h | h | h | h | h | h
      · have hc := hof 34 h
        rw [hc] at hsi
        obtain rfl : 34 = x := by simpa [Tk.simple] using hsi
        have y0 : ((s[a + 1].toNat : Int) == 34) = true := by rw [h]; rfl
        rw [hc] at he1
        have hres : escV (some ([34], 2)) = .tuple #[.string (s.extract (a + 1) (a + 2)), .int .i64 2] := by rw [he1]; rfl
        rw [hres]
        clear hc hof hsi he1 hn hres
        go_enter Try.func95, Try.ntmps95
        go_wp2
        go_ret2
        exact ⟨rfl, Below.refl _ _⟩
      · have hc := hof 92 h
        rw [hc] at hsi
        obtain rfl : 92 = x := by simpa [Tk.simple] using hsi
        have y0 : ((s[a + 1].toNat : Int) == 34) = false := by rw [h]; rfl
        have y1 : ((s[a + 1].toNat : Int) == 92) = true := by rw [h]; rfl
        rw [hc] at he1
        have hres : escV (some ([92], 2)) = .tuple #[.string (s.extract (a + 1) (a + 2)), .int .i64 2] := by rw [he1]; rfl
        rw [hres]
        clear hc hof hsi he1 hn hres
        go_enter Try.func95, Try.ntmps95
        go_wp2
        go_ret2
        exact ⟨rfl, Below.refl _ _⟩
      · have hc := hof 47 h
        rw [hc] at hsi
        obtain rfl : 47 = x := by simpa [Tk.simple] using hsi
        have y0 : ((s[a + 1].toNat : Int) == 34) = false := by rw [h]; rfl
        have y1 : ((s[a + 1].toNat : Int) == 92) = false := by rw [h]; rfl
        have y2 : ((s[a + 1].toNat : Int) == 47) = true := by rw [h]; rfl
        rw [hc] at he1
        have hres : escV (some ([47], 2)) = .tuple #[.string (s.extract (a + 1) (a + 2)), .int .i64 2] := by rw [he1]; rfl
        rw [hres]
        clear hc hof hsi he1 hn hres
        go_enter Try.func95, Try.ntmps95
        go_wp2
        go_ret2
        exact ⟨rfl, Below.refl _ _⟩
      · have hc := hof 98 h
        rw [hc] at hsi
        obtain rfl : 8 = x := by simpa [Tk.simple] using hsi
        have y0 : ((s[a + 1].toNat : Int) == 34) = false := by rw [h]; rfl
        have y1 : ((s[a + 1].toNat : Int) == 92) = false := by rw [h]; rfl
        have y2 : ((s[a + 1].toNat : Int) == 47) = false := by rw [h]; rfl
        have y3 : ((s[a + 1].toNat : Int) == 98) = true := by rw [h]; rfl
        clear hc hof hsi he1 hn
        go_enter Try.func95, Try.ntmps95
        go_wp2
        go_ret2
        exact ⟨rfl, Below.refl _ _⟩
      · have hc := hof 102 h
        rw [hc] at hsi
        obtain rfl : 12 = x := by simpa [Tk.simple] using hsi
        have y0 : ((s[a + 1].toNat : Int) == 34) = false := by rw [h]; rfl
        have y1 : ((s[a + 1].toNat : Int) == 92) = false := by rw [h]; rfl
        have y2 : ((s[a + 1].toNat : Int) == 47) = false := by rw [h]; rfl
        have y3 : ((s[a + 1].toNat : Int) == 98) = false := by rw [h]; rfl
        have y4 : ((s[a + 1].toNat : Int) == 102) = true := by rw [h]; rfl
        clear hc hof hsi he1 hn
        go_enter Try.func95, Try.ntmps95
        go_wp2
        go_ret2
        exact ⟨rfl, Below.refl _ _⟩
      · have hc := hof 110 h
        rw [hc] at hsi
        obtain rfl : 10 = x := by simpa [Tk.simple] using hsi
        have y0 : ((s[a + 1].toNat : Int) == 34) = false := by rw [h]; rfl
        have y1 : ((s[a + 1].toNat : Int) == 92) = false := by rw [h]; rfl
        have y2 : ((s[a + 1].toNat : Int) == 47) = false := by rw [h]; rfl
        have y3 : ((s[a + 1].toNat : Int) == 98) = false := by rw [h]; rfl
        have y4 : ((s[a + 1].toNat : Int) == 102) = false := by rw [h]; rfl
        have y5 : ((s[a + 1].toNat : Int) == 110) = true := by rw [h]; rfl
        clear hc hof hsi he1 hn
        go_enter Try.func95, Try.ntmps95
        go_wp2
        go_ret2
        exact ⟨rfl, Below.refl _ _⟩
      · have hc := hof 114 h
        rw [hc] at hsi
        obtain rfl : 13 = x := by simpa [Tk.simple] using hsi
        have y0 : ((s[a + 1].toNat : Int) == 34) = false := by rw [h]; rfl
        have y1 : ((s[a + 1].toNat : Int) == 92) = false := by rw [h]; rfl
        have y2 : ((s[a + 1].toNat : Int) == 47) = false := by rw [h]; rfl
        have y3 : ((s[a + 1].toNat : Int) == 98) = false := by rw [h]; rfl
        have y4 : ((s[a + 1].toNat : Int) == 102) = false := by rw [h]; rfl
        have y5 : ((s[a + 1].toNat : Int) == 110) = false := by rw [h]; rfl
        have y6 : ((s[a + 1].toNat : Int) == 114) = true := by rw [h]; rfl
        clear hc hof hsi he1 hn
        go_enter Try.func95, Try.ntmps95
        go_wp2
        go_ret2
        exact ⟨rfl, Below.refl _ _⟩
      · have hc := hof 116 h
        rw [hc] at hsi
        obtain rfl : 9 = x := by simpa [Tk.simple] using hsi
        have y0 : ((s[a + 1].toNat : Int) == 34) = false := by rw [h]; rfl
        have y1 : ((s[a + 1].toNat : Int) == 92) = false := by rw [h]; rfl
        have y2 : ((s[a + 1].toNat : Int) == 47) = false := by rw [h]; rfl
        have y3 : ((s[a + 1].toNat : Int) == 98) = false := by rw [h]; rfl
        have y4 : ((s[a + 1].toNat : Int) == 102) = false := by rw [h]; rfl
        have y5 : ((s[a + 1].toNat : Int) == 110) = false := by rw [h]; rfl
        have y6 : ((s[a + 1].toNat : Int) == 114) = false := by rw [h]; rfl
        have y7 : ((s[a + 1].toNat : Int) == 116) = true := by rw [h]; rfl
        clear hc hof hsi he1 hn
        go_enter Try.func95, Try.ntmps95
        go_wp2
        go_ret2
        exact ⟨rfl, Below.refl _ _⟩
  · have hes : Tk.esc (s.data.toList.drop a) = Tk.uesc (s.data.toList.drop a) := by
      unfold Tk.esc
      have : (s.data.toList.drop a).tail = [] := List.eq_nil_of_length_eq_zero (by rw [List.length_tail, List.length_drop, len_data]; omega)
      rw [this]
    rw [hes]
    exact ruesc_walk s a w hs ha (.inl (by omega))

theorem get_small {l : List UInt8} {c : UInt8} {r : List UInt8} {p : Nat × Nat} (hl : l = c :: r) (h : Uf.get l = some p) : (p.1 < 32 ↔ c.toNat < 32) := by
  subst hl
  unfold Uf.get at h
  dsimp only at h
  split at h
  · cases h
  · rename_i hn
    split at h
    · rename_i hc
      simp only [Option.some.injEq] at h
      subst h
      dsimp only
      by_cases hb : c.toNat < 128
      · have hf : Uf.first c = (1, c.toNat) := by unfold Uf.first; rw [if_pos hb]
        rw [hf]; rfl
      · have hf : 2 ≤ (Uf.first c).1 := by
          unfold Uf.first at hn ⊢
          rw [if_neg hb] at hn ⊢
          split
          · dsimp only; omega
          · split
            · dsimp only; omega
            · split
              · dsimp only; omega
              · rename_i x1 x2 x3
                rw [if_neg x1, if_neg x2, if_neg x3] at hn
                simp at hn
        have hlong := hc.2.1
        unfold Uf.long at hlong
        split at hlong
        · omega
        · constructor
          · intro h; omega
          · intro h; omega
    · cases h

def RxR (s : ByteArray) (G : List UInt8 × Nat × Bool) (w0 : World) (a t : Value) (w : World) : Prop :=
  ∃ (k f : Nat) (acc : List UInt8), k ≤ s.size ∧ s.size - k < f + 1 ∧ acc.length ≤ k ∧ a = .int .i64 (k : Int) ∧ t = str acc ∧ Below w0.heap.size w0 w ∧ Hid (G = ab k (Tk.txt (f + 1) (s.data.toList.drop k) acc))

set_option maxRecDepth 100000 in
set_option maxHeartbeats 4000000 in
theorem rtext_any (s : ByteArray) (a0 : Nat) (w : World) (hs : s.size ≤ 4294967280) (ha : a0 ≤ s.size) :
    Calls Try.prog 73 #[.string s, .int .i64 (a0 : Int)] w fun e w' => e = .returned (txtV (ab a0 (Tk.txt (s.size - a0 + 1) (s.data.toList.drop a0) []))) ∧ Below w.heap.size w w' := by
  obtain ⟨G, hG⟩ : ∃ G, G = ab a0 (Tk.txt (s.size - a0 + 1) (s.data.toList.drop a0) []) := ⟨_, rfl⟩
  rw [← hG]
  have HG := Lib.hid hG
  clear hG
  have hcv := cv_run s
  go_enter Try.func73, Try.ntmps73
  go_wp2
  go_loopw [1, 7] (RxR s G w) (fun i _ _ => s.size - (intOf i).toNat)
  case atStart => exact ⟨a0, s.size - a0, [], ha, by omega, by simp, by go_num, rfl, Below.refl _ _, HG⟩
  case round =>
    obtain ⟨k, f, acc, hk, hf, hacc, rfl, rfl, hbl, HX⟩ := hrel
    clear HG
    have hsz := hbl.size
    have zacc : (bs acc).size = acc.length := bs_size _
    by_cases hlt : k < s.size
    · have tl : decide ((k : Int) < (s.size : Int)) = true := decide_eq_true (by omega)
      have hd : s.data.toList.drop k = s[k] :: s.data.toList.drop (k + 1) := (List.getElem_cons_drop (by rw [len_data]; exact hlt)).symm
      have hx := HX.out
      rw [hd, Tk.txt] at hx
      have hsx := (s[k]).toNat_lt
      by_cases h34 : s[k] = 34
      · rw [if_pos h34] at hx
        have t34 : ((s[k].toNat : Int) == 34) = true := by rw [h34]; rfl
        obtain rfl := hx
        clear HX hd h34
        go_wp2
        exact bodyPost_ret (v := txtV (ab k (acc, 1, true))) (by simp [results, Try.results73, go_sem, txtV, ab, bs]) rfl ⟨rfl, hbl⟩
      · rw [if_neg h34] at hx
        have t34 : ((s[k].toNat : Int) == 34) = false := beq_eq_false_iff_ne.2 (fun e => h34 (UInt8.toNat_inj.1 (by have : (34 : UInt8).toNat = 34 := rfl; omega)))
        by_cases h92 : s[k] = 92
        · rw [if_pos h92, ← hd] at hx
          have t92 : ((s[k].toNat : Int) == 92) = true := by rw [h92]; rfl
          have HE := Lib.hid (fun W => rescape_any s k W hs hlt)
          cases he : Tk.esc (s.data.toList.drop k) with
          | none =>
            rw [he] at HE hx
            obtain rfl := hx
            unfold escV at HE
            clear HX hd h34 h92 he
            go_wp2_with (go_at_call 95; with_reducible refine (HE.out _).mono ?_; rintro e w2 ⟨rfl, hb2⟩)
            exact bodyPost_ret (v := txtV (ab k ([], 0, false))) (by simp [results, Try.results73, go_sem, txtV, ab, bs]) rfl ⟨rfl, hbl.trans (hb2.mono hsz)⟩
          | some p =>
            rw [he] at HE hx
            obtain ⟨e1, e2, e3⟩ := esc_len he
            rw [List.length_drop, len_data] at e2
            dsimp only at hx
            rw [ab_sh, List.drop_drop] at hx
            unfold escV at HE
            have te : ((p.2 : Int) == 0) = false := beq_eq_false_iff_ne.2 (by omega)
            have HY : Hid (G = ab (k + p.2) (Tk.txt (f - 1 + 1) (s.data.toList.drop (k + p.2)) (acc ++ p.1))) := by
              unfold Hid; rw [Nat.sub_add_cancel (by omega)]; exact hx
            have zp : (bs p.1).size = p.1.length := bs_size _
            have HV : Hid (str (acc ++ p.1) = .string (bs acc ++ bs p.1)) := by unfold Hid; rw [bs_append]
            clear HX hd h34 h92 he hx
            go_wp2_with (go_at_call 95; with_reducible refine (HE.out _).mono ?_; rintro e w2 ⟨rfl, hb2⟩)
            go_roundw
            case rel => exact ⟨k + p.2, f - 1, acc ++ p.1, by omega, by omega, by simp; omega, by go_num, HV.out.symm, hbl.trans (hb2.mono hsz), HY⟩
            case measure => simp [intOf]; omega
        · rw [if_neg h92, ← hd] at hx
          have t92 : ((s[k].toNat : Int) == 92) = false := beq_eq_false_iff_ne.2 (fun e => h92 (UInt8.toNat_inj.1 (by have : (92 : UInt8).toNat = 92 := rfl; omega)))
          have hga := rget_any _ s.data.toList k _ (cv_bytes s wr (by unfold maxLen; omega)) (by rw [len_data]; omega) (by rw [len_data]; omega)
          have hb1 := cv_below s wr
          cases hg : Uf.get (s.data.toList.drop k) with
          | none =>
            rw [hg] at hga hx
            obtain rfl := hx
            unfold getV at hga
            clear HX hd h34 h92 hg
            go_wp2_with (go_at_call 96; refine hga.mono ?_; rintro e w2 ⟨rfl, hb2⟩)
            exact bodyPost_ret (v := txtV (ab k ([], 0, false))) (by simp [results, Try.results73, go_sem, txtV, ab, bs]) rfl ⟨rfl, hbl.trans ((chain hb1 hb2).mono hsz)⟩
          | some p =>
            rw [hg] at hga hx
            obtain ⟨g1, g2, g3, g4⟩ := get_len hg
            have hsm := get_small hd hg
            rw [List.length_drop, len_data] at g3
            dsimp only at hx
            unfold getV at hga
            by_cases h32 : s[k].toNat < 32
            · rw [if_pos h32] at hx
              have t32 : decide ((p.1 : Int) < 32) = true := decide_eq_true (by have := hsm.2 h32; omega)
              obtain rfl := hx
              clear HX hd h34 h92 hg hsm
              go_wp2_with (go_at_call 96; refine hga.mono ?_; rintro e w2 ⟨rfl, hb2⟩)
              exact bodyPost_ret (v := txtV (ab k ([], 0, false))) (by simp [results, Try.results73, go_sem, txtV, ab, bs]) rfl ⟨rfl, hbl.trans ((chain hb1 hb2).mono hsz)⟩
            · rw [if_neg h32, ab_sh, List.drop_drop] at hx
              have t32 : decide ((p.1 : Int) < 32) = false := decide_eq_false (by have : ¬ p.1 < 32 := fun q => h32 (hsm.1 q); omega)
              have HY : Hid (G = ab (k + p.2) (Tk.txt (f - 1 + 1) (s.data.toList.drop (k + p.2)) (acc ++ (s.extract k (k + p.2)).data.toList))) := by
                unfold Hid; rw [Nat.sub_add_cancel (by omega), ext_take]; exact hx
              have zp : (s.extract k (k + p.2)).size = p.2 := by rw [ByteArray.size_extract]; omega
              have HV : Hid (str (acc ++ (s.extract k (k + p.2)).data.toList) = .string (bs acc ++ s.extract k (k + p.2))) := by
                unfold Hid
                show str _ = Value.string (bs acc ++ bs (s.extract k (k + p.2)).data.toList)
                rw [bs_append]
              have i1 : (k : Int) ≤ (k : Int) + (p.2 : Int) := by omega
              have i2 : (k : Int) + (p.2 : Int) ≤ (s.size : Int) := by omega
              clear HX hd h34 h92 hg hx hsm
              go_wp2_with (go_at_call 96; refine hga.mono ?_; rintro e w2 ⟨rfl, hb2⟩)
              go_roundw
              case rel => exact ⟨k + p.2, f - 1, acc ++ (s.extract k (k + p.2)).data.toList, by omega, by omega, by rw [List.length_append, len_data]; omega, by go_num, HV.out.symm, hbl.trans ((chain hb1 hb2).mono hsz), HY⟩
              case measure => simp [intOf]; omega
    · have tl : decide ((k : Int) < (s.size : Int)) = false := decide_eq_false (by omega)
      have hd : s.data.toList.drop k = [] := List.drop_eq_nil_of_le (by rw [len_data]; omega)
      have hx := HX.out
      rw [hd, Tk.txt] at hx
      obtain rfl := hx
      clear HX hd
      go_wp2_with fail
      exact bodyPost_ret (v := txtV (ab k ([], 0, false))) (by simp [results, Try.results73, go_sem, txtV, ab, bs]) rfl ⟨rfl, hbl⟩

end Go.Proofs.Ythbpkmmnoeikoaa
