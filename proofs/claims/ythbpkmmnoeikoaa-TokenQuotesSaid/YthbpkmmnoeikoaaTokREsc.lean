/-
  The reference's sixteen, Unit, escape: what an escape means. Condition: texts shorter than 2^32 bytes.
-/
import Derived.Test.YthbpkmmnoeikoaaTokText
import Derived.Test.YthbpkmmnoeikoaaUtfRGet
namespace Go.Proofs.Ythbpkmmnoeikoaa
open Go Go.RowKit
set_option linter.unusedVariables false
set_option linter.unusedSimpArgs false

set_option maxRecDepth 100000 in
theorem sixteen_any (c : UInt8) (w : World) : Calls Try.prog 116 #[.int .u8 (c.toNat : Int)] w fun e w' => e = .returned (.int .i64 (optI (Tk.hex c))) ∧ w' = w := by
  have hc := c.toNat_lt
  unfold Tk.hex
  by_cases h1 : 48 ≤ c.toNat ∧ c.toNat ≤ 57
  · rw [if_pos h1]
    have e : optI (some (c.toNat - 48)) = (c.toNat : Int) - 48 := by show ((c.toNat - 48 : Nat) : Int) = _; omega
    rw [e]
    go_enter Try.func116, Try.ntmps116
    go_wp2
    go_ret
    exact ⟨rfl, rfl⟩
  · rw [if_neg h1]
    by_cases h2 : 97 ≤ c.toNat ∧ c.toNat ≤ 102
    · rw [if_pos h2]
      have e : optI (some (c.toNat - 87)) = (c.toNat : Int) - 87 := by show ((c.toNat - 87 : Nat) : Int) = _; omega
      rw [e]
      go_enter Try.func116, Try.ntmps116
      go_wp2
      go_ret
      exact ⟨rfl, rfl⟩
    · rw [if_neg h2]
      by_cases h3 : 65 ≤ c.toNat ∧ c.toNat ≤ 70
      · rw [if_pos h3]
        have e : optI (some (c.toNat - 55)) = (c.toNat : Int) - 55 := by show ((c.toNat - 55 : Nat) : Int) = _; omega
        rw [e]
        go_enter Try.func116, Try.ntmps116
        go_wp2
        go_ret
        exact ⟨rfl, rfl⟩
      · rw [if_neg h3]
        rcases (by omega : c.toNat < 48 ∨ (57 < c.toNat ∧ c.toNat < 65) ∨ (70 < c.toNat ∧ c.toNat < 97) ∨ 102 < c.toNat) with h | h | h | h <;>
        · go_enter Try.func116, Try.ntmps116
          go_wp2
          go_ret
          exact ⟨rfl, rfl⟩

def UnR (l : List UInt8) (w0 : World) (a i : Value) (w : World) : Prop :=
  ∃ k acc : Nat, k ≤ 4 ∧ i = .int .i64 ((k : Int) + 2) ∧ a = .int .i64 (acc : Int) ∧ acc < 16 ^ k ∧ w = w0 ∧ Hid (Tk.hexs 4 l 0 = Tk.hexs (4 - k) (l.drop k) acc)

set_option maxRecDepth 100000 in
set_option maxHeartbeats 2000000 in
theorem runit_any (s : ByteArray) (a : Nat) (w : World) (hs : s.size ≤ 4294967280) (ha : a ≤ s.size + 12) :
    Calls Try.prog 110 #[.string s, .int .i64 (a : Int)] w fun e w' => e = .returned (.int .i64 (optI (Tk.unit (s.data.toList.drop a)))) ∧ w' = w := by
  by_cases h6 : s.size < a + 6
  · have hu : Tk.unit (s.data.toList.drop a) = none := by
      cases h : Tk.unit (s.data.toList.drop a) with
      | none => rfl
      | some r =>
        have := (unit_bound h).2
        rw [List.length_drop, len_data] at this; omega
    rw [hu]
    have t0 : decide ((a : Int) + 6 > (s.size : Int)) = true := decide_eq_true (by omega)
    go_enter Try.func110, Try.ntmps110
    go_wp2
    go_ret
    exact ⟨rfl, rfl⟩
  · have t0 : decide ((a : Int) + 6 > (s.size : Int)) = false := decide_eq_false (by omega)
    have hd1 : s.data.toList.drop a = s[a] :: s.data.toList.drop (a + 1) := (List.getElem_cons_drop (by rw [len_data]; omega)).symm
    have hd2 : s.data.toList.drop (a + 1) = s[a + 1] :: s.data.toList.drop (a + 2) := (List.getElem_cons_drop (by rw [len_data]; omega)).symm
    have hu : Tk.unit (s.data.toList.drop a) = if s[a] = 92 ∧ s[a + 1] = 117 then Tk.hexs 4 (s.data.toList.drop (a + 2)) 0 else none := by
      unfold Tk.unit
      rw [List.drop_drop]
      rw [show (s.data.toList.drop a).head? = some s[a] by rw [hd1]; rfl, show (s.data.toList.drop a).tail.head? = some s[a + 1] by rw [hd1]; show (s.data.toList.drop (a + 1)).head? = _; rw [hd2]; rfl]
      simp only [Option.some.injEq]
    rw [hu]
    clear hu hd1 hd2
    have hsx := s[a].toNat_lt
    have hsy := s[a + 1].toNat_lt
    by_cases h1 : s[a] = 92
    · have t1 : ((s[a].toNat : Int) != 92) = false := by rw [h1]; rfl
      by_cases h2 : s[a + 1] = 117
      · have t2 : ((s[a + 1].toNat : Int) != 117) = false := by rw [h2]; rfl
        rw [if_pos ⟨h1, h2⟩]
        obtain ⟨r, hr⟩ : ∃ r, r = Tk.hexs 4 (s.data.toList.drop (a + 2)) 0 := ⟨_, rfl⟩
        rw [← hr]
        have HR := Lib.hid hr
        clear hr h1 h2 hsx hsy
        go_enter Try.func110, Try.ntmps110
        go_wp2
        go_loopw [5, 6] (UnR (s.data.toList.drop (a + 2)) w) (fun _ i _ => 6 - (intOf i).toNat)
        case atStart => exact ⟨0, 0, by omega, by go_num, by go_num, by simp, rfl, by unfold Hid; simp⟩
        case round =>
          obtain ⟨k, acc, hk, rfl, rfl, hacc, rfl, HX⟩ := hrel
          by_cases hk4 : k < 4
          · have tk : decide ((k : Int) + 2 < 6) = true := decide_eq_true (by omega)
            have hks : a + (k + 2) < s.size := by omega
            have hd : (s.data.toList.drop (a + 2)).drop k = s[a + (k + 2)] :: (s.data.toList.drop (a + 2)).drop (k + 1) := by
              rw [List.drop_drop, List.drop_drop, show a + 2 + k = a + (k + 2) by omega, show a + 2 + (k + 1) = a + (k + 2) + 1 by omega]
              exact (List.getElem_cons_drop (by rw [len_data]; exact hks)).symm
            have hx := HX.out
            rw [show 4 - k = (4 - (k + 1)) + 1 by omega, hd, Tk.hexs] at hx
            have HS := Lib.hid (fun W => sixteen_any s[a + (k + 2)] W)
            have i1 : (0 : Int) ≤ (a : Int) + ((k : Int) + 2) := by omega
            have i2 : (a : Int) + ((k : Int) + 2) < (s.size : Int) := by omega
            have h16 : acc < 16 ^ 3 := Nat.lt_of_lt_of_le hacc (Nat.pow_le_pow_right (by decide) (by omega))
            clear hd
            cases hh : Tk.hex s[a + (k + 2)] with
            | none =>
              rw [hh] at hx HS
              obtain rfl : r = none := HR.out.trans (HX.out.trans (HX.out.symm.trans hx))
              change Hid (∀ W, Calls _ _ _ W fun e w' => e = .returned (.int .i64 (-1)) ∧ w' = W) at HS
              clear hx HX HR hh
              go_wp2_with (go_at_call 116; with_reducible refine (HS.out _).mono ?_; rintro e w1 ⟨rfl, rfl⟩)
              go_ret
              exact ⟨rfl, rfl⟩
            | some d =>
              rw [hh] at hx HS
              dsimp only at hx
              have HY : Hid (Tk.hexs 4 (s.data.toList.drop (a + 2)) 0 = Tk.hexs (4 - (k + 1)) ((s.data.toList.drop (a + 2)).drop (k + 1)) (acc * 16 + d)) := HX.out.trans (HX.out.symm.trans hx)
              change Hid (∀ W, Calls _ _ _ W fun e w' => e = .returned (.int .i64 (d : Int)) ∧ w' = W) at HS
              have hd16 : d < 16 := by
                unfold Tk.hex at hh
                split at hh
                · cases hh; omega
                · split at hh
                  · cases hh; omega
                  · split at hh
                    · cases hh; omega
                    · cases hh
              clear hx HX hh
              go_wp2_with (go_at_call 116; with_reducible refine (HS.out _).mono ?_; rintro e w1 ⟨rfl, rfl⟩)
              go_roundw
              case rel => exact ⟨k + 1, acc * 16 + d, by omega, by go_num, by go_num, by rw [Nat.pow_succ]; omega, rfl, HY⟩
              case measure => simp [intOf]; omega
          · obtain rfl : k = 4 := by omega
            have hx := HX.out
            simp only [Nat.sub_self, Tk.hexs] at hx
            obtain rfl : r = some acc := HR.out.trans hx
            clear hx HX HR
            go_wp2
            go_ret
            exact ⟨rfl, rfl⟩
      · have t2 : ((s[a + 1].toNat : Int) != 117) = true := by rw [bne_iff_ne]; intro e; exact h2 (UInt8.toNat_inj.1 (by have : (117 : UInt8).toNat = 117 := rfl; omega))
        rw [if_neg (fun h => h2 h.2)]
        clear h1 h2
        go_enter Try.func110, Try.ntmps110
        go_wp2
        go_ret
        exact ⟨rfl, rfl⟩
    · have t1 : ((s[a].toNat : Int) != 92) = true := by rw [bne_iff_ne]; intro e; exact h1 (UInt8.toNat_inj.1 (by have : (92 : UInt8).toNat = 92 := rfl; omega))
      rw [if_neg (fun h => h1 h.1)]
      clear h1
      go_enter Try.func110, Try.ntmps110
      go_wp2
      go_ret
      exact ⟨rfl, rfl⟩

/-- a conversion of a code's bytes, by the reference's Put -/
theorem rput_str (c : Nat) (h : Uf.code c = true) (w : World) : Calls Try.prog 63 #[.int .i64 (c : Int)] w fun e w' => ∃ v, e = .returned v ∧ (convert 67 9 v).run Try.prog w' = .ok (str (Uf.put c)) w' ∧ Below w.heap.size w w' := by
  refine (rput_any (c : Int) w).mono ?_
  rintro e w' ⟨v, rfl, hv, hb⟩
  rw [putI_code c h] at hv
  exact ⟨v, rfl, conv_back hv (put_ne c h), hb⟩
def simpleB (c : UInt8) : Bool := (Tk.simple c).isSome

set_option maxRecDepth 100000 in
set_option maxHeartbeats 4000000 in
/-- from the escape of four digits on; `t`s: the switch has no arm for the byte behind -/
theorem ruesc_walk (s : ByteArray) (a : Nat) (w : World) (hs : s.size ≤ 4294967280) (ha : a < s.size)
    (hq : s.size ≤ a + 1 ∨ ∃ h : a + 1 < s.size, Tk.simple s[a + 1] = none) :
    Calls Try.prog 95 #[.string s, .int .i64 (a : Int)] w fun e w' => e = .returned (escV (Tk.uesc (s.data.toList.drop a))) ∧ Below w.heap.size w w' := by
  have HU := Lib.hid (fun W => runit_any s a W hs (by omega))
  have HV := Lib.hid (fun W => runit_any s (a + 6) W hs (by omega))
  obtain ⟨r, hr⟩ : ∃ r, r = Tk.uesc (s.data.toList.drop a) := ⟨_, rfl⟩
  rw [← hr]
  have hce : ((a + 6 : Nat) : Int) = (a : Int) + 6 := by omega
  rw [hce] at HV
  have hq2 : (s.size ≤ a + 1) ∨ (∃ h : a + 1 < s.size, ((s[a + 1].toNat : Int) == 34) = false ∧ ((s[a + 1].toNat : Int) == 92) = false ∧ ((s[a + 1].toNat : Int) == 47) = false ∧ ((s[a + 1].toNat : Int) == 98) = false ∧ ((s[a + 1].toNat : Int) == 102) = false ∧ ((s[a + 1].toNat : Int) == 110) = false ∧ ((s[a + 1].toNat : Int) == 114) = false ∧ ((s[a + 1].toNat : Int) == 116) = false) := by
    rcases hq with h | ⟨h, hn⟩
    · exact .inl h
    · right
      refine ⟨h, ?_⟩
      have key : ∀ n : Nat, n < 256 → Tk.simple (UInt8.ofNat n) = none → n ≠ 34 ∧ n ≠ 92 ∧ n ≠ 47 ∧ n ≠ 98 ∧ n ≠ 102 ∧ n ≠ 110 ∧ n ≠ 114 ∧ n ≠ 116 := by decide +kernel
      have := key s[a + 1].toNat s[a + 1].toNat_lt (by simpa using hn)
      simp only [beq_eq_false_iff_ne, ne_eq]
      omega
  clear hq
  unfold Tk.uesc at hr
  rw [List.drop_drop] at hr
  have hsz : Tk.unit (s.data.toList.drop a) ≠ none → a + 6 ≤ s.size := fun h => by
    cases hx : Tk.unit (s.data.toList.drop a) with
    | none => exact absurd hx h
    | some c =>
      have := (unit_bound hx).2
      rw [List.length_drop, len_data] at this; omega
  cases hu : Tk.unit (s.data.toList.drop a) with
  | none =>
    rw [hu] at HU hr
    subst hr
    change Hid (∀ W, Calls _ _ _ W fun e w' => e = .returned (.int .i64 (-1)) ∧ w' = W) at HU
    clear hu hsz HV
    rcases hq2 with hq | ⟨hlt, y1, y2, y3, y4, y5, y6, y7, y8⟩
    · have t0 : decide ((a : Int) + 1 < (s.size : Int)) = false := decide_eq_false (by omega)
      go_enter Try.func95, Try.ntmps95
      go_wp2_with (first | (go_at_call 110; with_reducible refine (HU.out _).mono ?_; rintro e w1 ⟨rfl, rfl⟩))
      go_ret2
      exact ⟨rfl, Below.refl _ _⟩
    · have t0 : decide ((a : Int) + 1 < (s.size : Int)) = true := decide_eq_true (by omega)
      go_enter Try.func95, Try.ntmps95
      go_wp2_with (first | (go_at_call 110; with_reducible refine (HU.out _).mono ?_; rintro e w1 ⟨rfl, rfl⟩))
      go_ret2
      exact ⟨rfl, Below.refl _ _⟩
  | some c =>
    have hl6 := hsz (by rw [hu]; simp)
    rw [hu] at HU hr
    have hcb := (unit_bound hu).1
    dsimp only at hr
    obtain ⟨hlt, y1, y2, y3, y4, y5, y6, y7, y8⟩ := hq2.resolve_left (by omega)
    have t0 : decide ((a : Int) + 1 < (s.size : Int)) = true := decide_eq_true (by omega)
    change Hid (∀ W, Calls _ _ _ W fun e w' => e = .returned (.int .i64 (c : Int)) ∧ w' = W) at HU
    clear hu hsz hq2
    have HCo := Lib.hid (fun W => rcode_any (c : Int) W)
    rw [codeI_nat] at HCo
    obtain ⟨z, hz⟩ : ∃ z : Int, z = (c : Int) := ⟨_, rfl⟩
    have hz0 : 0 ≤ z := by omega
    have hz1 : z ≤ 65535 := by omega
    cases hcd : Uf.code c with
    | true =>
      rw [hcd, if_pos rfl] at hr
      rw [hcd] at HCo
      subst hr
      have HP := Lib.hid (fun W => rput_str c hcd W)
      rw [← hz] at HU HP HCo
      clear hcd hcb hz HV
      generalize Uf.put c = pp at *
      go_enter Try.func95, Try.ntmps95
      go_wp2_with (first | (go_at_call 110; with_reducible refine (HU.out _).mono ?_; rintro e w1 ⟨rfl, rfl⟩) | (go_at_call 110; with_reducible refine (HV.out _).mono ?_; rintro e w1 ⟨rfl, rfl⟩) | (go_at_call 89; with_reducible refine (HCo.out _).mono ?_; rintro e w1 ⟨rfl, rfl⟩) | (go_at_call 63; with_reducible refine (HP.out _).mono ?_; rintro e w2 ⟨v2, rfl, hcv, hb2⟩))
      go_ret2
      exact ⟨rfl, hb2⟩
    | false =>
      rw [hcd, if_neg (by simp)] at hr
      rw [hcd] at HCo
      have hco : 55296 ≤ c ∧ c ≤ 57343 := by unfold Uf.code at hcd; simp at hcd; omega
      have hz2 : 55296 ≤ z := by omega
      have hz3 : z ≤ 57343 := by omega
      rw [← hz] at HU HCo
      clear hcd
      by_cases h2 : 56320 ≤ c
      · rw [if_pos h2] at hr
        subst hr
        have tc : 56320 ≤ z := by omega
        obtain ⟨dv, hdv⟩ : ∃ dv, dv = optI (Tk.unit (s.data.toList.drop (a + 6))) := ⟨_, rfl⟩
        rw [← hdv] at HV
        clear h2 hco hcb hz hdv
        go_enter Try.func95, Try.ntmps95
        go_wp2_with (first | (go_at_call 110; with_reducible refine (HU.out _).mono ?_; rintro e w1 ⟨rfl, rfl⟩) | (go_at_call 110; with_reducible refine (HV.out _).mono ?_; rintro e w1 ⟨rfl, rfl⟩) | (go_at_call 89; with_reducible refine (HCo.out _).mono ?_; rintro e w1 ⟨rfl, rfl⟩))
        go_ret2
        exact ⟨rfl, Below.refl _ _⟩
      · rw [if_neg h2] at hr
        have tc : z < 56320 := by omega
        cases hd : Tk.unit (s.data.toList.drop (a + 6)) with
        | none =>
          rw [hd] at hr HV
          subst hr
          change Hid (∀ W, Calls _ _ _ W fun e w' => e = .returned (.int .i64 (-1)) ∧ w' = W) at HV
          clear hd h2 hco hcb hz
          go_enter Try.func95, Try.ntmps95
          go_wp2_with (first | (go_at_call 110; with_reducible refine (HU.out _).mono ?_; rintro e w1 ⟨rfl, rfl⟩) | (go_at_call 110; with_reducible refine (HV.out _).mono ?_; rintro e w1 ⟨rfl, rfl⟩) | (go_at_call 89; with_reducible refine (HCo.out _).mono ?_; rintro e w1 ⟨rfl, rfl⟩))
          go_ret2
          exact ⟨rfl, Below.refl _ _⟩
        | some d =>
          rw [hd] at hr HV
          dsimp only at hr
          have hdb := (unit_bound hd).1
          change Hid (∀ W, Calls _ _ _ W fun e w' => e = .returned (.int .i64 (d : Int)) ∧ w' = W) at HV
          obtain ⟨y, hy⟩ : ∃ y : Int, y = (d : Int) := ⟨_, rfl⟩
          have hy0 : 0 ≤ y := by omega
          have hy1 : y ≤ 65535 := by omega
          rw [← hy] at HV
          clear hd
          by_cases h3 : 56320 ≤ d ∧ d ≤ 57343
          · rw [if_pos h3] at hr
            subst hr
            have HP := Lib.hid (fun W => rput_str (65536 + (c - 55296) * 1024 + (d - 56320)) (by unfold Uf.code; simp; omega) W)
            have hce : ((65536 + (c - 55296) * 1024 + (d - 56320) : Nat) : Int) = 65536 + (z - 55296) * 1024 + y - 56320 := by omega
            rw [hce] at HP
            generalize Uf.put (65536 + (c - 55296) * 1024 + (d - 56320)) = pp at *
            have td : 56320 ≤ y := by omega
            have te : y ≤ 57343 := by omega
            clear h2 h3 hco hcb hdb hce hy hz
            go_enter Try.func95, Try.ntmps95
            go_wp2_with (first | (go_at_call 110; with_reducible refine (HU.out _).mono ?_; rintro e w1 ⟨rfl, rfl⟩) | (go_at_call 110; with_reducible refine (HV.out _).mono ?_; rintro e w1 ⟨rfl, rfl⟩) | (go_at_call 89; with_reducible refine (HCo.out _).mono ?_; rintro e w1 ⟨rfl, rfl⟩) | (go_at_call 63; with_reducible refine (HP.out _).mono ?_; rintro e w2 ⟨v2, rfl, hcv, hb2⟩))
            go_ret2
            exact ⟨rfl, hb2⟩
          · rw [if_neg h3] at hr
            subst hr
            have hyy : y < 56320 ∨ 57343 < y := by omega
            clear h2 h3 hco hcb hdb hy hz
            rcases hyy with h4 | h4
            · skip
              go_enter Try.func95, Try.ntmps95
              go_wp2_with (first | (go_at_call 110; with_reducible refine (HU.out _).mono ?_; rintro e w1 ⟨rfl, rfl⟩) | (go_at_call 110; with_reducible refine (HV.out _).mono ?_; rintro e w1 ⟨rfl, rfl⟩) | (go_at_call 89; with_reducible refine (HCo.out _).mono ?_; rintro e w1 ⟨rfl, rfl⟩))
              go_ret2
              exact ⟨rfl, Below.refl _ _⟩
            · skip
              go_enter Try.func95, Try.ntmps95
              go_wp2_with (first | (go_at_call 110; with_reducible refine (HU.out _).mono ?_; rintro e w1 ⟨rfl, rfl⟩) | (go_at_call 110; with_reducible refine (HV.out _).mono ?_; rintro e w1 ⟨rfl, rfl⟩) | (go_at_call 89; with_reducible refine (HCo.out _).mono ?_; rintro e w1 ⟨rfl, rfl⟩))
              go_ret2
              exact ⟨rfl, Below.refl _ _⟩

end Go.Proofs.Ythbpkmmnoeikoaa
