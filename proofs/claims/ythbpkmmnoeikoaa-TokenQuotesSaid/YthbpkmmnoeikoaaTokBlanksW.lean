/-
  The walk of TokenBlanks. Condition: the law's own.
-/
import Derived.Test.YthbpkmmnoeikoaaTokAllW
import Derived.Test.YthbpkmmnoeikoaaTokShift
namespace Go.Proofs.Ythbpkmmnoeikoaa
open Go Go.RowKit
set_option linter.unusedVariables false
set_option linter.unusedSimpArgs false

theorem data_app (a b : ByteArray) : (a ++ b).data.toList = a.data.toList ++ b.data.toList := by simp

theorem blanks_toks (H s : ByteArray) (hs : s.size ≤ 4294960000) (hH : H.size ≤ 100) (hb : ∀ c ∈ H.data.toList, Tk.blank c = true) (T : List (Tk.Tok × Nat × Int)) (hT : T = its (s.size + 1) s.data.toList 0) (w : World) :
    Calls Try.prog 35 #[.string (H ++ s)] w fun e w' => ∃ p c, e = .returned (.tuple #[.slice p (good T).length c, .int .i64 ((iend T : Int) + (H.size : Int)), .int .i64 (ierr T)]) ∧ ToksV w' (.slice p (good T).length c) ((good T).map (sht H.size)) ∧ Below w.heap.size w w' := by
  have hsz : (H ++ s).size = H.size + s.size := by simp
  have h := its_blanks H.data.toList s.data.toList hb
  rw [← data_app, len_data, len_data, len_data, ← hT] at h
  have hne : T ≠ [] := by rw [hT]; exact its_ne _ _ _
  have hg := good_map H.size T
  have he := iend_map H.size T hne
  have hr := ierr_map H.size T hne
  refine (all_toks (H ++ s) (by omega) _ h.symm w).mono ?_
  rintro e w' ⟨p, n, c, rfl, hv, hb2⟩
  rw [hg] at hv
  rw [he, hr]
  obtain ⟨p', c', hp, _⟩ := id hv
  rw [List.length_map] at hp
  cases hp
  exact ⟨p, c, by rw [Int.natCast_add], hv, hb2⟩

theorem all_toks2 (s : ByteArray) (hs : s.size ≤ 4294967280) (T : List (Tk.Tok × Nat × Int)) (hT : T = its (s.size + 1) s.data.toList 0) (w : World) :
    Calls Try.prog 35 #[.string s] w fun e w' => ∃ p c, e = .returned (.tuple #[.slice p (good T).length c, .int .i64 (iend T : Int), .int .i64 (ierr T)]) ∧ ToksV w' (.slice p (good T).length c) (good T) ∧ Below w.heap.size w w' := by
  refine (all_toks s hs T hT w).mono ?_
  rintro e w' ⟨p, n, c, rfl, hv, hb⟩
  obtain ⟨p', c', hp, _⟩ := id hv
  cases hp
  exact ⟨p, c, rfl, hv, hb⟩

def BlR (n : Nat) (w0 : World) (i : Value) (w : World) : Prop := ∃ k : Nat, k ≤ n ∧ i = .int .i64 (k : Int) ∧ Below w0.heap.size w0 w

set_option maxRecDepth 100000 in
set_option maxHeartbeats 4000000 in
theorem tokenBlanks_walk (s : ByteArray) (n : Int) (w : World) (hs : s.size ≤ maxLen) (h1 : 0 ≤ n) (h2 : n ≤ 255) :
    Calls Try.prog 14 #[.string s, .int .u8 n] w fun e w' => e = .returned (.bool true) ∧ Below w.heap.size w w' := by
  have HA := Lib.hid alive_any
  by_cases hl : s.size > 300
  · have t5 : decide ((s.size : Int) > 300) = true := decide_eq_true (by omega)
    go_enter Try.func14, Try.ntmps14
    go_wp2_with (go_at_call 32; with_reducible refine (HA.out _).mono ?_; rintro e w1 ⟨rfl, hb1⟩)
    go_ret
    exact ⟨rfl, hb1⟩
  · have t5 : decide ((s.size : Int) > 300) = false := decide_eq_false (by omega)
    obtain ⟨K, hK, hK5⟩ : ∃ K : Nat, n.tmod 5 = (K : Int) ∧ K < 5 := by
      have h3 := Int.tmod_eq_emod_of_nonneg (b := 5) h1
      exact ⟨(n.tmod 5).toNat, by omega, by omega⟩
    obtain ⟨H, hH, hHK, hHb⟩ : ∃ H : ByteArray, (⟨#[32, 9, 10, 13, 32]⟩ : ByteArray).extract 0 K = H ∧ H.size = K ∧ ∀ c ∈ H.data.toList, Tk.blank c = true := by
      refine ⟨_, rfl, ?_⟩
      have : K = 0 ∨ K = 1 ∨ K = 2 ∨ K = 3 ∨ K = 4 := by omega
      rcases this with rfl | rfl | rfl | rfl | rfl <;> decide
    obtain ⟨T, hT⟩ : ∃ T, T = its (s.size + 1) s.data.toList 0 := ⟨_, rfl⟩
    have HN := Lib.hid (all_toks2 s (by omega) T hT)
    have HB := Lib.hid (blanks_toks H s (by omega) (by omega) hHb T hT)
    rw [hHK] at HB
    have hgl := toks_len s T hT
    have hN : (good T).length ≤ 301 := by omega
    have hE : iend T ≤ 300 := by
      have hord := its_ord (s.size + 1) s.data.toList 0 (Nat.zero_le _) (by rw [len_data]; omega)
      rw [len_data, ← hT] at hord
      have := hord.hi
      omega
    have hkl : ∀ t ∈ good T, t.at' ≤ 300 ∧ t.end' ≤ 300 := by
      have hord := its_ord (s.size + 1) s.data.toList 0 (Nat.zero_le _) (by rw [len_data]; omega)
      rw [len_data, ← hT] at hord
      intro t ht
      obtain ⟨i, hi, rfl⟩ := List.getElem_of_mem ht
      have := hord.all i hi
      have h4 := this.le
      have h5 := this.hi
      omega
    have HKL := Lib.hid hkl
    have hs3 : s.size ≤ 300 := by omega
    clear hT hl hHb hgl hkl h1 h2
    generalize good T = ts at *
    generalize iend T = E at *
    generalize ierr T = er at *
    go_enter Try.func14, Try.ntmps14
    go_wp2_with (first
      | (go_at_call 32; with_reducible refine (HA.out _).mono ?_; rintro e w1 ⟨rfl, hb1⟩)
      | (go_at_call 35; with_reducible refine (HN.out _).mono ?_; rintro e w2 ⟨p1, c1, rfl, hv1, hb2⟩)
      | (go_at_call 35; with_reducible refine (HB.out _).mono ?_; rintro e w3 ⟨p2, c2, rfl, hv2, hb3⟩))
    have HV := Lib.hid (hv1.below hb3)
    have HV2 := Lib.hid hv2
    have hw3 : Below w.heap.size w w3 := chain (chain hb1 hb2) hb3
    clear hv1 hv2 hb1 hb2 hb3
    go_loopw [13] (BlR ts.length w3) (fun i _ => ts.length - (intOf i).toNat)
    case atStart => exact ⟨0, Nat.zero_le _, by go_num, Below.refl _ _⟩
    case round =>
      obtain ⟨k, hk, rfl, hbl⟩ := hrel
      have hv := HV.out.below hbl
      have hv' := HV2.out.below hbl
      obtain ⟨p, c, hp, hv3⟩ := hv
      cases hp
      obtain ⟨p', c', hp', hv4⟩ := hv'
      simp only [Value.slice.injEq, List.length_map, true_and] at hp'
      obtain ⟨rfl, rfl⟩ := hp'
      by_cases hlt : k < ts.length
      · have tl : decide ((k : Int) < (ts.length : Int)) = true := decide_eq_true (by omega)
        obtain ⟨b, rfl, x0, x1, x2, x3, x4⟩ := hv3 k hlt
        have hlt2 : k < (ts.map (sht K)).length := by rw [List.length_map]; exact hlt
        obtain ⟨b2, rfl, y0, y1, y2, y3, y4⟩ := hv4 k hlt2
        have hm : (ts.map (sht K))[k] = sht K ts[k] := by simp
        rw [hm] at y0 y1 y2 y3 y4
        obtain ⟨o1, o2⟩ := HKL.out ts[k] (List.getElem_mem hlt)
        clear hv3 hv4 hm
        generalize ts[k] = t at *
        unfold sht at y0 y1 y2 y3 y4
        dsimp only at y0 y1 y2 y3 y4
        rw [Int.natCast_add] at y1 y2
        go_wp2
        have hal := (Below.refl wr.heap.size wr).alloc (Nat.le_refl _) (.cells #[.int .i64 (t.kind : Int), .int .i64 ((t.at' : Int) + (K : Int)), .int .i64 ((t.end' : Int) + (K : Int)), .string (bs t.s), .int .i64 t.n] 52)
        have z0 := cell_below hal y0
        have z1 := cell_below hal y1
        have z2 := cell_below hal y2
        have z3 := cell_below hal y3
        have z4 := cell_below hal y4
        go_region
        go_wp2
        go_roundw
        case rel => exact ⟨k + 1, by omega, by go_num, (hbl.alloc hbl.size _).drew⟩
        case measure => simp [intOf]; omega
      · obtain rfl : k = ts.length := by omega
        have tl : decide ((ts.length : Int) < (ts.length : Int)) = false := decide_eq_false (by omega)
        clear hv3 hv4
        go_wp2
        exact bodyPost_ret (v := .bool true) (by simp [results, Try.results14, go_sem]) rfl ⟨rfl, chain hw3 hbl⟩

end Go.Proofs.Ythbpkmmnoeikoaa
