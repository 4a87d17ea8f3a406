/-
  The walk of TokenOrder. Condition: the law's own.
-/
import Derived.Test.YthbpkmmnoeikoaaTokAllW
import Derived.Test.YthbpkmmnoeikoaaTokOrd
namespace Go.Proofs.Ythbpkmmnoeikoaa
open Go Go.RowKit
set_option linter.unusedVariables false
set_option linter.unusedSimpArgs false

def OrR (ts : List Tk.Tok) (w0 : World) (a i : Value) (w : World) : Prop :=
  ∃ k : Nat, k ≤ ts.length ∧ a = .int .i64 (pe 0 ts k : Int) ∧ i = .int .i64 (k : Int) ∧ Below w0.heap.size w0 w

set_option maxRecDepth 100000 in
set_option maxHeartbeats 4000000 in
theorem tokenOrder_walk (s : ByteArray) (w : World) (hs : s.size ≤ maxLen) :
    Calls Try.prog 13 #[.string s] w fun e w' => e = .returned (.bool true) ∧ Below w.heap.size w w' := by
  have HA := Lib.hid alive_any
  by_cases hl : s.size > 500
  · have t5 : decide ((s.size : Int) > 500) = true := decide_eq_true (by omega)
    go_enter Try.func13, Try.ntmps13
    go_wp2_with (go_at_call 32; with_reducible refine (HA.out _).mono ?_; rintro e w1 ⟨rfl, hb1⟩)
    go_ret
    exact ⟨rfl, hb1⟩
  · have t5 : decide ((s.size : Int) > 500) = false := decide_eq_false (by omega)
    obtain ⟨T, hT⟩ : ∃ T, T = its (s.size + 1) s.data.toList 0 := ⟨_, rfl⟩
    have HN := Lib.hid (all_toks s (by omega) T hT)
    have hgl := toks_len s T hT
    have hord := its_ord (s.size + 1) s.data.toList 0 (Nat.zero_le _) (by rw [len_data]; omega)
    rw [len_data, ← hT] at hord
    obtain ⟨-, hall, hlo, hhi, hfin⟩ := hord
    have HALL := Lib.hid hall
    have HFIN := Lib.hid hfin
    have hN : (good T).length ≤ 501 := by omega
    clear hT hl hall hfin
    generalize good T = ts at *
    generalize iend T = E at *
    generalize ierr T = er at *
    go_enter Try.func13, Try.ntmps13
    go_wp2_with (first
      | (go_at_call 32; with_reducible refine (HA.out _).mono ?_; rintro e w1 ⟨rfl, hb1⟩)
      | (go_at_call 35; with_reducible refine (HN.out _).mono ?_; rintro e w2 ⟨p1, n1, c1, rfl, hv1, hb2⟩))
    have HV := Lib.hid hv1
    obtain ⟨p, c, hp, hv2⟩ := hv1
    cases hp
    clear hv2
    have hw2 : Below w.heap.size w w2 := chain hb1 hb2
    go_loopw [6, 7] (OrR ts w2) (fun _ i _ => ts.length - (intOf i).toNat)
    case atStart => exact ⟨0, Nat.zero_le _, rfl, by go_num, Below.refl _ _⟩
    case round =>
      obtain ⟨k, hk, rfl, rfl, hbl⟩ := hrel
      obtain ⟨p', c', hp', hv3⟩ := HV.out.below hbl
      cases hp'
      by_cases hlt : k < ts.length
      · have tl : decide ((k : Int) < (ts.length : Int)) = true := decide_eq_true (by omega)
        obtain ⟨b, rfl, x0, x1, x2, x3, x4⟩ := hv3 k hlt
        obtain ⟨o1, o2, o3, o4, o5⟩ := HALL.out k hlt
        have hpe : pe 0 ts (k + 1) = ts[k].end' := by show (ts.getD k Tk.zero).end' = _; rw [List.getD_eq_getElem?_getD, List.getElem?_eq_getElem hlt]; rfl
        have HPE := Lib.hid hpe
        clear hpe hv3
        generalize ts[k] = t at *
        have t33 : decide ((t.at' : Int) < (pe 0 ts k : Int)) = false := decide_eq_false (by omega)
        have t39 : decide ((t.end' : Int) < (t.at' : Int)) = false := decide_eq_false (by omega)
        have t46 : decide ((t.end' : Int) > (s.size : Int)) = false := decide_eq_false (by omega)
        have n33 : decide (t.at' < pe 0 ts k) = false := decide_eq_false (by omega)
        have n39 : decide (t.end' < t.at') = false := decide_eq_false (by omega)
        have n46 : decide (s.size < t.end') = false := decide_eq_false (by omega)
        by_cases hz : t.kind = 0
        · have t51 : ((t.kind : Int) == 0) = true := beq_iff_eq.2 (by omega)
          have t56 : ((t.end' : Int) == (t.at' : Int)) = true := beq_iff_eq.2 (by have := o4.1 hz; omega)
          have t68 : decide ((k : Int) < (ts.length : Int) - 1) = false := decide_eq_false (by have := o5 hz; omega)
          have t46b : decide ((t.at' : Int) > (s.size : Int)) = false := decide_eq_false (by omega)
          have HEE := Lib.hid (o4.1 hz)
          clear o1 o2 o3 o4 o5 hz
          go_wp2
          go_roundw
          case rel => exact ⟨k + 1, by omega, by rw [HPE.out], by go_num, hbl.alloc hbl.size _⟩
          case measure => simp [intOf]; omega
        · have t51 : ((t.kind : Int) == 0) = false := beq_eq_false_iff_ne.2 (by omega)
          have t56 : ((t.end' : Int) == (t.at' : Int)) = false := beq_eq_false_iff_ne.2 (fun e => hz (o4.2 (by omega)))
          clear o1 o2 o3 o4 o5 hz
          go_wp2
          go_roundw
          case rel => exact ⟨k + 1, by omega, by rw [HPE.out], by go_num, hbl.alloc hbl.size _⟩
          case measure => simp [intOf]; omega
      · obtain rfl : k = ts.length := by omega
        have tl : decide ((ts.length : Int) < (ts.length : Int)) = false := decide_eq_false (by omega)
        have t75 : decide ((E : Int) ≥ (pe 0 ts ts.length : Int)) = true := decide_eq_true (by omega)
        have t80 : decide ((E : Int) ≤ (s.size : Int)) = true := decide_eq_true (by omega)
        have n75 : decide (pe 0 ts ts.length ≤ E) = true := decide_eq_true (by omega)
        have n80 : decide (E ≤ s.size) = true := decide_eq_true (by omega)
        by_cases he : er = 0
        · have t84 : (er != 0) = false := by simp [he]
          obtain ⟨i1, i2, i3⟩ := HFIN.out he
          obtain ⟨m, hm⟩ : ∃ m, m + 1 = ts.length := ⟨_, Nat.sub_add_cancel i1⟩
          have tm : m < ts.length := by omega
          obtain ⟨b, rfl, x0, _⟩ := hv3 m tm
          have hz : ts[m].kind = 0 := i2 _ (by rw [show ts.length - 1 = m by omega]; exact List.getElem?_eq_getElem tm)
          have t88 : decide ((ts.length : Int) > 0) = true := decide_eq_true (by omega)
          have n88 : decide (0 < ts.length) = true := decide_eq_true (by omega)
          have t93 : (ts.length : Int) - 1 = (m : Int) := by omega
          have t97 : ((ts[m].kind : Int) == 0) = true := beq_iff_eq.2 (by omega)
          have t103 : ((E : Int) == (s.size : Int)) = true := beq_iff_eq.2 (by omega)
          have tmi : (m : Int) < (ts.length : Int) := by omega
          have tmi2 : (m : Int) ≤ 501 := by omega
          clear hv3 i1 i2 i3 hz he hm
          go_wp2
          exact bodyPost_ret (v := .bool true) (by simp [results, Try.results13, go_sem]) rfl ⟨rfl, chain hw2 hbl⟩
        · have t84 : (er != 0) = true := by simp [he]
          clear hv3 he
          go_wp2
          exact bodyPost_ret (v := .bool true) (by simp [results, Try.results13, go_sem]) rfl ⟨rfl, chain hw2 hbl⟩

end Go.Proofs.Ythbpkmmnoeikoaa
