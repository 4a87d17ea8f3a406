/-
  The walk of TokenAll. Condition: the law's own.
-/
import Derived.Test.YthbpkmmnoeikoaaTokLaws
namespace Go.Proofs.Ythbpkmmnoeikoaa
open Go Go.RowKit
set_option linter.unusedVariables false
set_option linter.unusedSimpArgs false

theorem all_toks (s : ByteArray) (hs : s.size ≤ 4294967280) (T : List (Tk.Tok × Nat × Int)) (hT : T = its (s.size + 1) s.data.toList 0) (w : World) :
    Calls Try.prog 35 #[.string s] w fun e w' => ∃ p n c, e = .returned (.tuple #[.slice p n c, .int .i64 (iend T : Int), .int .i64 (ierr T)]) ∧ ToksV w' (.slice p n c) (good T) ∧ Below w.heap.size w w' := by
  refine (callsIn_wide.1 (all_in s w hs T hT)).mono ?_
  rintro e w' ⟨v, rfl, hv, hb⟩
  obtain ⟨p, n, c, rfl⟩ := owns_form hv
  exact ⟨p, n, c, rfl, ToksV.of hv, hb⟩
theorem rall_toks (s : ByteArray) (hs : s.size ≤ 4294967280) (T : List (Tk.Tok × Nat × Int)) (hT : T = its (s.size + 1) s.data.toList 0) (w : World) :
    Calls Try.prog 36 #[.string s] w fun e w' => ∃ p n c, e = .returned (.tuple #[.slice p n c, .int .i64 (iend T : Int), .int .i64 (ierr T)]) ∧ ToksV w' (.slice p n c) (good T) ∧ Below w.heap.size w w' := by
  refine (rall_any s w hs T hT).mono ?_
  rintro e w' ⟨v, rfl, hv, hb⟩
  obtain ⟨p, n, c, rfl⟩ := owns_form hv
  exact ⟨p, n, c, rfl, ToksV.of hv, hb⟩
theorem ToksV.below {w w' : World} {v : Value} {ts : List Tk.Tok} (h : ToksV w v ts) (hb : Below w.heap.size w w') : ToksV w' v ts := by
  obtain ⟨p, c, rfl, h1⟩ := h
  refine ⟨p, c, rfl, fun k hk => ?_⟩
  obtain ⟨b, hp, c0, c1, c2, c3, c4⟩ := h1 k hk
  exact ⟨b, hp, cell_below hb c0, cell_below hb c1, cell_below hb c2, cell_below hb c3, cell_below hb c4⟩
theorem toks_len (s : ByteArray) (T : List (Tk.Tok × Nat × Int)) (hT : T = its (s.size + 1) s.data.toList 0) : (good T).length ≤ s.size + 1 := by
  have h1 := its_len (s.size + 1) s.data.toList 0 (Nat.zero_le _)
  rw [← hT, len_data] at h1
  have := good_len T
  omega

set_option maxRecDepth 100000 in
set_option maxHeartbeats 4000000 in
theorem tokenAll_walk (s : ByteArray) (w : World) (hs : s.size ≤ maxLen) :
    Calls Try.prog 11 #[.string s] w fun e w' => e = .returned (.bool true) ∧ Below w.heap.size w w' := by
  have HA := Lib.hid alive_any
  by_cases hl : s.size > 500
  · have t5 : decide ((s.size : Int) > 500) = true := decide_eq_true (by omega)
    go_enter Try.func11, Try.ntmps11
    go_wp2_with (go_at_call 32; with_reducible refine (HA.out _).mono ?_; rintro e w1 ⟨rfl, hb1⟩)
    go_ret
    exact ⟨rfl, hb1⟩
  · have t5 : decide ((s.size : Int) > 500) = false := decide_eq_false (by omega)
    obtain ⟨T, hT⟩ : ∃ T, T = its (s.size + 1) s.data.toList 0 := ⟨_, rfl⟩
    have HN := Lib.hid (all_toks s (by omega) T hT)
    have HR := Lib.hid (rall_toks s (by omega) T hT)
    have HQ := Lib.hid (fun W => quote_any s W (by omega))
    have HQR := Lib.hid (fun W => rquote_any s W (by omega))
    have hgl := toks_len s T hT
    have hgl4 : (good T).length ≤ 4294967296 := by omega
    generalize Tk.quote s.data.toList = q at *
    clear hT hl
    go_enter Try.func11, Try.ntmps11
    go_wp2_with (first
      | (go_at_call 32; with_reducible refine (HA.out _).mono ?_; rintro e w1 ⟨rfl, hb1⟩)
      | (go_at_call 35; with_reducible refine (HN.out _).mono ?_; rintro e w2 ⟨p1, n1, c1, rfl, hv1, hb2⟩)
      | (go_at_call 36; with_reducible refine (HR.out _).mono ?_; rintro e w3 ⟨p2, n2, c2, rfl, hv2, hb3⟩)
      | (go_at_call 37; refine (same_any _ _ (good T) _ hgl4 (hv1.below hb3) hv2).mono ?_; rintro e w4 ⟨rfl, hb4⟩)
      | (go_at_call 38; with_reducible refine (HQ.out _).mono ?_; rintro e w5 ⟨rfl, hb5⟩)
      | (go_at_call 39; with_reducible refine (HQR.out _).mono ?_; rintro e w6 ⟨rfl, hb6⟩))
    go_ret
    exact ⟨rfl, chain (chain (chain (chain (chain hb1 hb2) hb3) hb4) hb5) hb6⟩

end Go.Proofs.Ythbpkmmnoeikoaa
