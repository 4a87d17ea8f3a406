/-
  Several texts in one, each with its own head below. Conditions: as each says.
-/
import Derived.Test.YthbpkmmnoeikoaaJm10
import Derived.Test.YthbpkmmnoeikoaaJm11
import Derived.Deep.DeepCutAuto
import Derived.Test.YthbpkmmnoeikoaaJm04
import Derived.Test.YthbpkmmnoeikoaaJm02
/-
  slices.ContainsFunc at a row of things, with json.Right's own closure. Condition: at most a million things.
-/
namespace Go.Proofs.Ythbpkmmnoeikoaa
open Go Go.RowKit
set_option linter.unusedVariables false
set_option linter.unusedSimpArgs false

/-- none of the texts is longer -/
inductive Sz (n : Nat) : Js.J → Prop
  | mk (kd m : Int) (s : List UInt8) (ns : List (List UInt8)) (xs : List Js.J) (h1 : s.length ≤ n) (h2 : ∀ x ∈ ns, x.length ≤ n) (h3 : ∀ i (h : i < xs.length), Sz n xs[i]) : Sz n (.mk kd m s ns xs)
/-- is it a thing? -/
def rt : Nat → Js.J → Bool
  | 0, _ => false
  | k + 1, .mk kd n s ns xs => !(decide (kd < 0 ∨ kd > 6 ∨ kd = 3) || decide (kd ≠ 2 ∧ n ≠ 0 ∧ ¬ (kd = 1 ∧ n = 1)) || (decide (kd ≠ 4 ∧ s ≠ []) || !valid s) || decide (kd ≠ 6 ∧ ns.length > 0 ∨ kd ≠ 6 ∧ kd ≠ 5 ∧ xs.length > 0) ||
      (decide (kd = 6) && (decide (ns.length ≠ xs.length) || !nmOk ns))) && xs.all (rt k)
/-- what Right does at a value -/
def RtOk (k : Nat) : Prop := ∀ (j : Js.J) (v : Value) (S : Nat → Prop) (W : World), JVn k S W v j → (∀ b, S b → b < W.heap.size) → Bd 1000000 j → Sz 4294967280 j →
    Calls Try.prog 30 #[v] W fun e W' => e = .returned (.bool (rt k j)) ∧ Below W.heap.size W W'
def RfR (k : Nat) (xs : List Js.J) (w0 : World) (i : Value) (w : World) : Prop := ∃ m : Nat, m ≤ xs.length ∧ i = .int .i64 (m : Int) ∧ Below w0.heap.size w0 w ∧ Hid (∀ a (h : a < xs.length), a < m → rt k xs[a] = true)

set_option maxRecDepth 100000 in
set_option maxHeartbeats 4000000 in
theorem jnot_right (k : Nat) (IH : RtOk k) (j : Js.J) (v : Value) (S : Nat → Prop) (W : World) (hj : JVn k S W v j) (hS : ∀ b, S b → b < W.heap.size) (hB : Bd 1000000 j) (hZ : Sz 4294967280 j) :
    Calls Try.prog 59 #[v] W fun e W' => e = .returned (.bool (!rt k j)) ∧ Below W.heap.size W W' := by
  obtain ⟨u0, u1, u2, u3, u4, u5, u6, u7, u8, rfl⟩ := hj.form2
  have hb : Below W.heap.size W (W.alloc (.cells #[.int .i64 u0, .int .i64 u1, .string u2, .slice u3 u4 u5, .slice u6 u7 u8] 41)) := (Below.refl _ W).alloc (Nat.le_refl _) _
  have hc := IH j _ S _ (hj.below hS hb) (fun b h => Nat.lt_of_lt_of_le (hS b h) hb.size) hB hZ
  go_enter Try.func59, Try.ntmps59
  go_wp2_with (go_at_call 30; (with_reducible refine hc.mono ?_); rintro e w1 ⟨rfl, hb1⟩)
  go_ret
  exact ⟨rfl, hb.trans (hb1.mono hb.size)⟩

set_option maxRecDepth 100000 in
set_option maxHeartbeats 4000000 in
theorem jindexf_any (k : Nat) (IH : RtOk k) (S : Nat → Prop) (v : Value) (xs : List Js.J) (W : World) (hv : ItemsV (JVn k S W) S W v xs) (hS : ∀ b, S b → b < W.heap.size) (hX : xs.length ≤ 1000000) (hB : ∀ i (h : i < xs.length), Bd 1000000 xs[i]) (hZ : ∀ i (h : i < xs.length), Sz 4294967280 xs[i]) :
    Calls Try.prog 88 #[v, .func (.func 59) #[] #[]] W fun e W' => ∃ r : Int, e = .returned (.int .i64 r) ∧ decide (r ≥ 0) = (!xs.all (rt k)) ∧ Below W.heap.size W W' := by
  obtain ⟨p, c, rfl, hi⟩ := hv
  have HI := Lib.hid hi
  have HB := Lib.hid hB
  have HZ := Lib.hid hZ
  have hr := jnot_right k IH
  have HC := Lib.hid hr
  clear hi hB hZ IH hr
  obtain ⟨A, hA⟩ : ∃ A, A = (!xs.all (rt k)) := ⟨_, rfl⟩
  rw [← hA]
  have HA := Lib.hid hA
  clear hA
  go_enter Try.func88, Try.ntmps88
  go_wp2_with fail
  go_loopw [8] (RfR k xs W) (fun i _ => xs.length - (intOf i).toNat)
  case atStart => exact ⟨0, Nat.zero_le _, by go_num, Below.refl _ _, fun m h h2 => absurd h2 (by omega)⟩
  case round =>
    obtain ⟨i, hi, rfl, hbl, HK⟩ := hrel
    by_cases hlt : i < xs.length
    · have tl : decide ((i : Int) < (xs.length : Int)) = true := decide_eq_true (by omega)
      obtain ⟨e1, o1, d0, d1, d2, d3, d4, rfl, hs1, ⟨g0, g1, g2, g3, g4⟩, hr1⟩ := HI.out i hlt
      obtain ⟨u0, u1, u2, u3, u4, u5, u6, u7, u8, he⟩ := hr1.form2
      simp at he
      obtain ⟨rfl, rfl, rfl, rfl, rfl⟩ := he
      have q1 := hbl.block e1 (hS e1 hs1)
      have g0 := cell_same q1 g0
      have g1 := cell_same q1 g1
      have g2 := cell_same q1 g2
      have g3 := cell_same q1 g3
      have g4 := cell_same q1 g4
      have hcall := HC.out xs[i] _ S wr (hr1.below hS hbl) (fun b h => Nat.lt_of_lt_of_le (hS b h) hbl.size) (HB.out i hlt) (HZ.out i hlt)
      clear q1 hr1
      cases hrv : rt k xs[i] with
      | false =>
        rw [hrv] at hcall
        have hat : A = true := by
          rw [HA.out]
          have : xs.all (rt k) = false := by
            rw [Bool.eq_false_iff]
            intro h
            have := List.all_eq_true.1 h xs[i] (List.getElem_mem hlt)
            rw [hrv] at this; cases this
          rw [this]; rfl
        have HAT := Lib.hid hat
        have ti : decide ((i : Int) ≥ 0) = true := decide_eq_true (by omega)
        have HTI := Lib.hid ti
        clear hrv hat HA ti
        go_wp2_with fail
        refine hcall.mono ?_
        rintro e w1 ⟨rfl, hb1⟩
        go_wp2_with fail
        exact bodyPost_ret (v := .int .i64 (i : Int)) (by simp [results, Try.results88, go_sem]) rfl ⟨_, rfl, by rw [HAT.out, HTI.out], hbl.trans (hb1.mono hbl.size)⟩
      | true =>
        rw [hrv] at hcall
        have HRV := Lib.hid hrv
        clear hrv
        go_wp2_with fail
        refine hcall.mono ?_
        rintro e w1 ⟨rfl, hb1⟩
        go_wp2_with fail
        go_roundw
        case rel => exact ⟨i + 1, by omega, by go_num, hbl.trans (hb1.mono hbl.size), fun m h h2 => by
          by_cases hm : m = i
          · subst hm; exact HRV.out
          · exact HK.out m h (by omega)⟩
        case measure => simp [intOf]; omega
    · obtain rfl : i = xs.length := by omega
      have tl : decide ((xs.length : Int) < (xs.length : Int)) = false := decide_eq_false (by omega)
      have hat : A = false := by
        rw [HA.out]
        have : xs.all (rt k) = true := List.all_eq_true.2 (fun x hx => by
          obtain ⟨a, ha, rfl⟩ := List.getElem_of_mem hx
          exact HK.out a ha ha)
        rw [this]; rfl
      have HAT := Lib.hid hat
      clear hat HA
      go_wp2_with fail
      exact bodyPost_ret (v := .int .i64 (-1)) (by simp [results, Try.results88, go_sem]) rfl ⟨_, rfl, by rw [HAT.out]; decide, hbl⟩

set_option maxRecDepth 100000 in
set_option maxHeartbeats 4000000 in
theorem jcontf_any (k : Nat) (IH : RtOk k) (S : Nat → Prop) (v : Value) (xs : List Js.J) (W : World) (hv : ItemsV (JVn k S W) S W v xs) (hS : ∀ b, S b → b < W.heap.size) (hX : xs.length ≤ 1000000) (hB : ∀ i (h : i < xs.length), Bd 1000000 xs[i]) (hZ : ∀ i (h : i < xs.length), Sz 4294967280 xs[i]) :
    Calls Try.prog 58 #[v, .func (.func 59) #[] #[]] W fun e W' => e = .returned (.bool (!xs.all (rt k))) ∧ Below W.heap.size W W' := by
  have hc := jindexf_any k IH S v xs W hv hS hX hB hZ
  generalize (!xs.all (rt k)) = A at *
  obtain ⟨p, c, rfl, hi⟩ := hv
  clear hi
  go_enter Try.func58, Try.ntmps58
  go_wp2_with fail
  refine hc.mono ?_
  rintro e w1 ⟨r, rfl, hr, hb1⟩
  go_wp2_with fail
  exact bodyPost_ret (v := .bool A) (by simp [results, Try.results58, go_sem, ← hr]) rfl ⟨rfl, hb1⟩

end Go.Proofs.Ythbpkmmnoeikoaa

/-
  json.Right of a value that reads as a thing. Condition: no row of it is longer than a million; its texts are shorter than 2^32 - 15 bytes.
-/
namespace Go.Proofs.Ythbpkmmnoeikoaa
open Go Go.RowKit
set_option linter.unusedVariables false
set_option linter.unusedSimpArgs false

set_option maxRecDepth 100000 in
set_option maxHeartbeats 8000000 in
theorem jright_succ (k : Nat) (IH : RtOk k) : RtOk (k + 1) := by
  intro j v S W h hS hB hZ
  obtain ⟨kd, n, s, ns, xs⟩ := j
  obtain ⟨_, _, _, _, _, b1, b2, b3⟩ := hB
  obtain ⟨_, _, _, _, _, z1, z2, z3⟩ := hZ
  obtain ⟨vn, vl, rfl, hn, hi⟩ := h
  obtain ⟨p1, c1, hvn, _⟩ := id hn
  obtain ⟨p2, c2, hvl, _⟩ := id hi
  have hx := heap_alloc_new W (.cells #[.int .i64 kd, .int .i64 n, .string (bs s), vn, vl] 41)
  have hb : Below W.heap.size W (W.alloc (.cells #[.int .i64 kd, .int .i64 n, .string (bs s), vn, vl] 41)) := (Below.refl _ W).alloc (Nat.le_refl _) _
  obtain ⟨A, hA⟩ : ∃ A, A = rt (k + 1) (.mk kd n s ns xs) := ⟨_, rfl⟩
  rw [← hA]
  unfold rt at hA
  have HV := Lib.hid (fun W => valid_any (bs s) W (by rw [bs_size]; exact z1))
  have HNM := Lib.hid (fun W' (hh : Below W.heap.size W W') => jnames_any S vn ns W' (hn.keep (fun _ h => h) (fun b h => hh.block b (hS b h))) (fun b h => Nat.lt_of_lt_of_le (hS b h) hh.size) b1 z2)
  have HCF := Lib.hid (fun W' (hh : Below W.heap.size W W') => jcontf_any k IH S vl xs W' (hi.keep (fun u x hu => hu.below hS hh) (fun _ h => h) (fun b h => hh.block b (hS b h))) (fun b h => Nat.lt_of_lt_of_le (hS b h) hh.size) b2 b3 z3)
  subst hvn hvl
  obtain ⟨k1, hk1⟩ : ∃ b, b = decide (kd < 0 ∨ kd > 6 ∨ kd = 3) := ⟨_, rfl⟩
  obtain ⟨k2, hk2⟩ : ∃ b, b = decide (kd ≠ 2 ∧ n ≠ 0 ∧ ¬ (kd = 1 ∧ n = 1)) := ⟨_, rfl⟩
  obtain ⟨k3, hk3⟩ : ∃ b, b = (decide (kd ≠ 4 ∧ s ≠ []) || !valid s) := ⟨_, rfl⟩
  obtain ⟨k4, hk4⟩ : ∃ b, b = decide (kd ≠ 6 ∧ ns.length > 0 ∨ kd ≠ 6 ∧ kd ≠ 5 ∧ xs.length > 0) := ⟨_, rfl⟩
  obtain ⟨k5, hk5⟩ : ∃ b, b = (decide (kd = 6) && (decide (ns.length ≠ xs.length) || !nmOk ns)) := ⟨_, rfl⟩
  rw [← hk1, ← hk2, ← hk3, ← hk4, ← hk5] at hA
  have HA := Lib.hid hA
  have H1 := Lib.hid hk1
  have H2 := Lib.hid hk2
  have H3 := Lib.hid hk3
  have H4 := Lib.hid hk4
  have H5 := Lib.hid hk5
  clear hn hi hA hk1 hk2 hk3 hk4 hk5 b3 z2 z3 z1 IH
  generalize xs.all (rt k) = all at *
  go_enter Try.func30, Try.ntmps30
  obtain ⟨x0, x1, x2, x3, x4⟩ := tok_cells hx
  go_upto_region 1 with fail
  generalize W.alloc (.cells #[.int .i64 kd, .int .i64 n, .string (bs s), .slice p1 ns.length c1, .slice p2 xs.length c2] 41) = W2 at *
  go_cut [3] (fun s3 wx => s3 = .bool k1 ∧ Below W.heap.size W wx ∧ wx.heap[W.heap.size]? = some (.cells #[.int .i64 kd, .int .i64 n, .string (bs s), .slice p1 ns.length c1, .slice p2 xs.length c2] 41 (0, 0)))
  case first =>
    by_cases h0 : kd < 0
    · have th00 : decide (kd < 0) = true := decide_eq_true (by omega)
      have hk : k1 = true := H1.out.trans (decide_eq_true (by omega))
      have HK := Lib.hid hk
      clear hk h0
      go_wp2_with fail
      go_meet
      case rel => exact ⟨by rw [HK.out], hb, hx⟩
    · have th00 : decide (kd < 0) = false := decide_eq_false (by omega)
      by_cases h6 : kd > 6
      · have th60 : decide (kd > 6) = true := decide_eq_true (by omega)
        have hk : k1 = true := H1.out.trans (decide_eq_true (by omega))
        have HK := Lib.hid hk
        clear hk h0 h6
        go_wp2_with fail
        go_meet
        case rel => exact ⟨by rw [HK.out], hb, hx⟩
      · have th60 : decide (kd > 6) = false := decide_eq_false (by omega)
        by_cases h3 : kd = 3
        · have th30 : (kd == 3) = true := by simp [h3]
          have hk : k1 = true := H1.out.trans (decide_eq_true (by omega))
          have HK := Lib.hid hk
          clear hk h0 h6 h3
          go_wp2_with fail
          go_meet
          case rel => exact ⟨by rw [HK.out], hb, hx⟩
        · have th30 : (kd == 3) = false := by simp [h3]
          have hk : k1 = false := H1.out.trans (decide_eq_false (by omega))
          have HK := Lib.hid hk
          clear hk h0 h6 h3
          go_wp2_with fail
          go_meet
          case rel => exact ⟨by rw [HK.out], hb, hx⟩
  case rest =>
    clear hb hx x0 x1 x2 x3 x4
    obtain ⟨rfl, hb, hx⟩ := hcut
    obtain ⟨wc1, hwc⟩ : ∃ w, w = wc := ⟨_, rfl⟩
    rw [← hwc] at hb hx ⊢
    clear hwc
    obtain ⟨x0, x1, x2, x3, x4⟩ := tok_cells hx
    cases k1 with
    | true =>
      have ha : A = false := by rw [HA.out]; simp
      have HAF := Lib.hid ha
      clear ha
      go_wp2_with fail
      exact bodyPost_ret (v := .bool false) (by simp [results, Try.results30, go_sem]) rfl ⟨by rw [HAF.out], hb⟩
    | false =>
      go_upto_region 2 with fail
      go_cut [3] (fun s3 wx => s3 = .bool k2 ∧ Below W.heap.size W wx ∧ wx.heap[W.heap.size]? = some (.cells #[.int .i64 kd, .int .i64 n, .string (bs s), .slice p1 ns.length c1, .slice p2 xs.length c2] 41 (0, 0)))
      case first =>
        by_cases h2 : kd = 2
        · have th20 : (kd != 2) = false := by simp [h2]
          have hk : k2 = false := H2.out.trans (decide_eq_false (by omega))
          have HK := Lib.hid hk
          clear hk h2
          go_wp2_with fail
          go_meet
          case rel => exact ⟨by rw [HK.out], hb, hx⟩
        · have th20 : (kd != 2) = true := by simp [h2]
          by_cases h0 : n = 0
          · have th00 : (n != 0) = false := by simp [h0]
            have hk : k2 = false := H2.out.trans (decide_eq_false (by omega))
            have HK := Lib.hid hk
            clear hk h2 h0
            go_wp2_with fail
            go_meet
            case rel => exact ⟨by rw [HK.out], hb, hx⟩
          · have th00 : (n != 0) = true := by simp [h0]
            by_cases h1 : kd = 1
            · have th10 : (kd == 1) = true := by simp [h1]
              by_cases hn : n = 1
              · have thn0 : (n == 1) = true := by simp [hn]
                have hk : k2 = false := H2.out.trans (decide_eq_false (by omega))
                have HK := Lib.hid hk
                clear hk h2 h0 h1 hn
                go_wp2_with fail
                go_meet
                case rel => exact ⟨by rw [HK.out], hb, hx⟩
              · have thn0 : (n == 1) = false := by simp [hn]
                have hk : k2 = true := H2.out.trans (decide_eq_true (by omega))
                have HK := Lib.hid hk
                clear hk h2 h0 h1 hn
                go_wp2_with fail
                go_meet
                case rel => exact ⟨by rw [HK.out], hb, hx⟩
            · have th10 : (kd == 1) = false := by simp [h1]
              have hk : k2 = true := H2.out.trans (decide_eq_true (by omega))
              have HK := Lib.hid hk
              clear hk h2 h0 h1
              go_wp2_with fail
              go_meet
              case rel => exact ⟨by rw [HK.out], hb, hx⟩
      case rest =>
        clear hb hx x0 x1 x2 x3 x4
        obtain ⟨rfl, hb, hx⟩ := hcut
        obtain ⟨wc2, hwc⟩ : ∃ w, w = wc := ⟨_, rfl⟩
        rw [← hwc] at hb hx ⊢
        clear hwc
        obtain ⟨x0, x1, x2, x3, x4⟩ := tok_cells hx
        cases k2 with
        | true =>
          have ha : A = false := by rw [HA.out]; simp
          have HAF := Lib.hid ha
          clear ha
          go_wp2_with fail
          exact bodyPost_ret (v := .bool false) (by simp [results, Try.results30, go_sem]) rfl ⟨by rw [HAF.out], hb⟩
        | false =>
          go_upto_region 3 with fail
          go_cut [3] (fun s3 wx => s3 = .bool k3 ∧ Below W.heap.size W wx ∧ wx.heap[W.heap.size]? = some (.cells #[.int .i64 kd, .int .i64 n, .string (bs s), .slice p1 ns.length c1, .slice p2 xs.length c2] 41 (0, 0)))
          case first =>
            by_cases h4 : kd = 4
            · have th40 : (kd != 4) = false := by simp [h4]
              have hk : k3 = (!valid s) := H3.out.trans (by rw [decide_eq_false (by rintro ⟨a, _⟩; exact a h4), Bool.false_or])
              have HK := Lib.hid hk
              have hcall := HV.out wc2
              clear hk h4
              go_wp2_with (go_at_call 56; (with_reducible refine hcall.mono ?_); rintro e w1 ⟨rfl, hb1⟩)
              go_meet
              case rel => exact ⟨congrArg Value.bool HK.out.symm, hb.trans (hb1.mono hb.size), (hb1.block _ (Array.getElem?_eq_some_iff.1 hx).1).trans hx⟩
            · have th40 : (kd != 4) = true := by simp [h4]
              by_cases hs : s = []
              · have ths0 : (bs s).toList.isEmpty = true := by rw [ByteArray.toList_eq]; show s.isEmpty = true; rw [hs]; rfl
                have hk : k3 = (!valid s) := H3.out.trans (by rw [decide_eq_false (by rintro ⟨_, a⟩; exact a hs), Bool.false_or])
                have HK := Lib.hid hk
                have hcall := HV.out wc2
                clear hk h4 hs
                go_wp2_with (go_at_call 56; (with_reducible refine hcall.mono ?_); rintro e w1 ⟨rfl, hb1⟩)
                go_meet
                case rel => exact ⟨congrArg Value.bool HK.out.symm, hb.trans (hb1.mono hb.size), (hb1.block _ (Array.getElem?_eq_some_iff.1 hx).1).trans hx⟩
              · have ths0 : (bs s).toList.isEmpty = false := by rw [ByteArray.toList_eq]; show s.isEmpty = false; cases s with | nil => exact absurd rfl hs | cons a l => rfl
                have hk : k3 = true := H3.out.trans (by rw [decide_eq_true (show kd ≠ 4 ∧ s ≠ [] from ⟨h4, hs⟩), Bool.true_or])
                have HK := Lib.hid hk
                clear hk h4 hs
                go_wp2_with fail
                go_meet
                case rel => exact ⟨by rw [HK.out], hb, hx⟩
          case rest =>
            clear hb hx x0 x1 x2 x3 x4
            obtain ⟨rfl, hb, hx⟩ := hcut
            obtain ⟨wc3, hwc⟩ : ∃ w, w = wc := ⟨_, rfl⟩
            rw [← hwc] at hb hx ⊢
            clear hwc
            obtain ⟨x0, x1, x2, x3, x4⟩ := tok_cells hx
            cases k3 with
            | true =>
              have ha : A = false := by rw [HA.out]; simp
              have HAF := Lib.hid ha
              clear ha
              go_wp2_with fail
              exact bodyPost_ret (v := .bool false) (by simp [results, Try.results30, go_sem]) rfl ⟨by rw [HAF.out], hb⟩
            | false =>
              go_upto_region 4 with fail
              go_cut [3] (fun s3 wx => s3 = .bool k4 ∧ Below W.heap.size W wx ∧ wx.heap[W.heap.size]? = some (.cells #[.int .i64 kd, .int .i64 n, .string (bs s), .slice p1 ns.length c1, .slice p2 xs.length c2] 41 (0, 0)))
              case first =>
                by_cases h6 : kd = 6
                · have th60 : (kd != 6) = false := by simp [h6]
                  have hk : k4 = false := H4.out.trans (decide_eq_false (by omega))
                  have HK := Lib.hid hk
                  clear hk h6
                  go_wp2_with fail
                  go_meet
                  case rel => exact ⟨by rw [HK.out], hb, hx⟩
                · have th60 : (kd != 6) = true := by simp [h6]
                  by_cases hn : ns.length > 0
                  · have thn0 : decide ((ns.length : Int) > 0) = true := decide_eq_true (by omega)
                    have thn1 : decide (0 < ns.length) = true := decide_eq_true (by omega)
                    have hk : k4 = true := H4.out.trans (decide_eq_true (by omega))
                    have HK := Lib.hid hk
                    clear hk h6 hn
                    go_wp2_with fail
                    go_meet
                    case rel => exact ⟨by rw [HK.out], hb, hx⟩
                  · have thn0 : decide ((ns.length : Int) > 0) = false := decide_eq_false (by omega)
                    have thn1 : decide (0 < ns.length) = false := decide_eq_false (by omega)
                    by_cases h5 : kd = 5
                    · have th50 : (kd != 5) = false := by simp [h5]
                      have hk : k4 = false := H4.out.trans (decide_eq_false (by omega))
                      have HK := Lib.hid hk
                      clear hk h6 hn h5
                      go_wp2_with fail
                      go_meet
                      case rel => exact ⟨by rw [HK.out], hb, hx⟩
                    · have th50 : (kd != 5) = true := by simp [h5]
                      by_cases hx0 : xs.length > 0
                      · have thx00 : decide ((xs.length : Int) > 0) = true := decide_eq_true (by omega)
                        have thx01 : decide (0 < xs.length) = true := decide_eq_true (by omega)
                        have hk : k4 = true := H4.out.trans (decide_eq_true (by omega))
                        have HK := Lib.hid hk
                        clear hk h6 hn h5 hx0
                        go_wp2_with fail
                        go_meet
                        case rel => exact ⟨by rw [HK.out], hb, hx⟩
                      · have thx00 : decide ((xs.length : Int) > 0) = false := decide_eq_false (by omega)
                        have thx01 : decide (0 < xs.length) = false := decide_eq_false (by omega)
                        have hk : k4 = false := H4.out.trans (decide_eq_false (by omega))
                        have HK := Lib.hid hk
                        clear hk h6 hn h5 hx0
                        go_wp2_with fail
                        go_meet
                        case rel => exact ⟨by rw [HK.out], hb, hx⟩
              case rest =>
                clear hb hx x0 x1 x2 x3 x4
                obtain ⟨rfl, hb, hx⟩ := hcut
                obtain ⟨wc4, hwc⟩ : ∃ w, w = wc := ⟨_, rfl⟩
                rw [← hwc] at hb hx ⊢
                clear hwc
                obtain ⟨x0, x1, x2, x3, x4⟩ := tok_cells hx
                cases k4 with
                | true =>
                  have ha : A = false := by rw [HA.out]; simp
                  have HAF := Lib.hid ha
                  clear ha
                  go_wp2_with fail
                  exact bodyPost_ret (v := .bool false) (by simp [results, Try.results30, go_sem]) rfl ⟨by rw [HAF.out], hb⟩
                | false =>
                  go_upto_region 5 with fail
                  go_cut [3] (fun s3 wx => s3 = .bool k5 ∧ Below W.heap.size W wx ∧ wx.heap[W.heap.size]? = some (.cells #[.int .i64 kd, .int .i64 n, .string (bs s), .slice p1 ns.length c1, .slice p2 xs.length c2] 41 (0, 0)))
                  case first =>
                    by_cases h6 : kd = 6
                    · have th60 : (kd == 6) = true := by simp [h6]
                      by_cases hl : ns.length = xs.length
                      · have thl0 : ((ns.length : Int) != (xs.length : Int)) = false := by simp; omega
                        have hk : k5 = (!nmOk ns) := H5.out.trans (by rw [decide_eq_true h6, decide_eq_false (fun a => a hl), Bool.true_and, Bool.false_or])
                        have HK := Lib.hid hk
                        have hcall := HNM.out wc4 hb
                        clear hk h6 hl
                        go_wp2_with (go_at_call 57; (with_reducible refine hcall.mono ?_); rintro e w1 ⟨rfl, hb1⟩)
                        go_meet
                        case rel => exact ⟨congrArg Value.bool HK.out.symm, hb.trans (hb1.mono hb.size), (hb1.block _ (Array.getElem?_eq_some_iff.1 hx).1).trans hx⟩
                      · have thl0 : ((ns.length : Int) != (xs.length : Int)) = true := by simp; omega
                        have hk : k5 = true := H5.out.trans (by rw [decide_eq_true h6, decide_eq_true hl, Bool.true_and, Bool.true_or])
                        have HK := Lib.hid hk
                        clear hk h6 hl
                        go_wp2_with fail
                        go_meet
                        case rel => exact ⟨by rw [HK.out], hb, hx⟩
                    · have th60 : (kd == 6) = false := by simp [h6]
                      have hk : k5 = false := H5.out.trans (by rw [decide_eq_false h6, Bool.false_and])
                      have HK := Lib.hid hk
                      clear hk h6
                      go_wp2_with fail
                      go_meet
                      case rel => exact ⟨by rw [HK.out], hb, hx⟩
                  case rest =>
                    clear hb hx x0 x1 x2 x3 x4
                    obtain ⟨rfl, hb, hx⟩ := hcut
                    obtain ⟨wc5, hwc⟩ : ∃ w, w = wc := ⟨_, rfl⟩
                    rw [← hwc] at hb hx ⊢
                    clear hwc
                    obtain ⟨x0, x1, x2, x3, x4⟩ := tok_cells hx
                    cases k5 with
                    | true =>
                      have ha : A = false := by rw [HA.out]; simp
                      have HAF := Lib.hid ha
                      clear ha
                      go_wp2_with fail
                      exact bodyPost_ret (v := .bool false) (by simp [results, Try.results30, go_sem]) rfl ⟨by rw [HAF.out], hb⟩
                    | false =>
                      have ha : A = all := by rw [HA.out]; simp
                      have HAF := Lib.hid ha
                      have hcall := HCF.out wc5 hb
                      clear ha
                      go_wp2_with fail
                      refine hcall.mono ?_
                      rintro e w1 ⟨rfl, hb1⟩
                      go_wp2_with fail
                      exact bodyPost_ret (v := .bool all) (by simp [results, Try.results30, go_sem]) rfl ⟨by rw [HAF.out], hb.trans (hb1.mono hb.size)⟩

theorem jright_any : ∀ k : Nat, RtOk k
  | 0 => fun _ _ _ _ h _ _ _ => h.elim
  | k + 1 => jright_succ k (jright_any k)

end Go.Proofs.Ythbpkmmnoeikoaa

/-
  token.Quote: a text's JSON. Condition: the text is shorter than 2^29 bytes.
-/
namespace Go.Proofs.Ythbpkmmnoeikoaa
open Go Go.RowKit
set_option linter.unusedVariables false
set_option linter.unusedSimpArgs false

namespace Tk
def hx (n : Nat) : UInt8 := six.getD n 0
def qb (c : UInt8) : F := if c = 34 ∨ c = 92 then [92, c] else if c.toNat < 32 then [92, 117, 48, 48, hx (c.toNat / 16), hx (c.toNat % 16)] else [c]
def qbs (l : F) : F := (l.map qb).flatten
def quote (l : F) : F := if valid l then 34 :: (qbs l ++ [34]) else []
theorem qbs_snoc (l : F) (c : UInt8) : qbs (l ++ [c]) = qbs l ++ qb c := by simp [qbs]
theorem qb_len (c : UInt8) : (qb c).length ≤ 6 := by
  unfold qb
  split
  · simp
  · split <;> simp
theorem qbs_len : ∀ l : F, (qbs l).length ≤ 6 * l.length
  | [] => by simp [qbs]
  | c :: l => by
    have h1 := qb_len c
    have h2 := qbs_len l
    have : qbs (c :: l) = qb c ++ qbs l := by simp [qbs]
    rw [this, List.length_append, List.length_cons]; omega
end Tk

theorem six_ix : ∀ n : Nat, (h : n < 16) → (⟨#[48, 49, 50, 51, 52, 53, 54, 55, 56, 57, 97, 98, 99, 100, 101, 102]⟩ : ByteArray)[n]'h = Tk.hx n := by decide

def QuR (s : ByteArray) (w0 : World) (i : Value) (w : World) : Prop :=
  ∃ k : Nat, k ≤ s.size ∧ i = .int .i64 (k : Int) ∧ IsB w0.heap.size w0.heap.size (34 :: Tk.qbs (s.data.toList.take k)) w ∧ Below w0.heap.size w0 w

set_option maxRecDepth 100000 in
set_option maxHeartbeats 4000000 in
theorem quote_any (s : ByteArray) (w : World) (hs : s.size ≤ 536870000) :
    Calls Try.prog 38 #[.string s] w fun e w' => e = .returned (str (Tk.quote s.data.toList)) ∧ Below w.heap.size w w' := by
  have HV := Lib.hid (fun W => valid_any s W (by omega))
  unfold Tk.quote
  cases hv : valid s.data.toList with
  | false =>
    rw [hv] at HV
    clear hv
    go_enter Try.func38, Try.ntmps38
    go_wp2_with (go_at_call 56; with_reducible refine (HV.out _).mono ?_; rintro e w1 ⟨rfl, hb1⟩)
    go_ret
    exact ⟨rfl, hb1⟩
  | true =>
    rw [hv] at HV
    rw [if_pos rfl]
    clear hv
    go_enter Try.func38, Try.ntmps38
    go_wp2_with (go_at_call 56; with_reducible refine (HV.out _).mono ?_; rintro e w1 ⟨rfl, hb1⟩)
    refine (wb_any w1.heap.size w1.heap.size [] 34 _ (IsB.new w1) (by simp)).mono ?_
    rintro e w2 ⟨rfl, hB, hb2⟩
    go_wp2_with fail
    go_loopw [12] (QuR s w1) (fun i _ => s.size - (intOf i).toNat)
    case atStart => exact ⟨0, Nat.zero_le _, by go_num, by rw [List.take_zero]; exact hB, ((Below.refl _ _).alloc (Nat.le_refl _) _).trans hb2⟩
    case round =>
      clear hB hb2
      obtain ⟨k, hk, rfl, hB, hbl⟩ := hrel
      have hll := Tk.qbs_len (s.data.toList.take k)
      rw [List.length_take, len_data] at hll
      by_cases hlt : k < s.size
      · have hta : s.data.toList.take (k + 1) = s.data.toList.take k ++ [s[k]] := by
          rw [List.take_add_one, List.getElem?_eq_getElem (by rw [len_data]; exact hlt)]; rfl
        have hq : 34 :: Tk.qbs (s.data.toList.take (k + 1)) = (34 :: Tk.qbs (s.data.toList.take k)) ++ Tk.qb s[k] := by rw [hta, Tk.qbs_snoc]; simp
        have hsx := s[k].toNat_lt
        by_cases h1 : s[k] = 34 ∨ s[k] = 92
        · have hqb : Tk.qb s[k] = [92] ++ [s[k]] := by unfold Tk.qb; rw [if_pos h1]; rfl
          rw [hqb, ← List.append_assoc] at hq
          have HQ := Lib.hid hq
          clear hq hqb hta
          rcases h1 with h1 | h1
          · have t34 : ((s[k].toNat : Int) == 34) = true := by rw [h1]; rfl
            clear h1
            go_wp2_with fail
            refine (wb_any _ _ _ 92 _ hB (by simp; omega)).mono ?_
            rintro e w2 ⟨rfl, hB2, hb2⟩
            go_wp2_with fail
            refine (wb_any _ _ _ s[k] _ hB2 (by simp; omega)).mono ?_
            rintro e w3 ⟨rfl, hB3, hb3⟩
            go_wp2_with fail
            go_roundw
            case rel => exact ⟨k + 1, by omega, by go_num, by rw [HQ.out]; exact hB3, (hbl.trans hb2).trans hb3⟩
            case measure => simp [intOf]; omega
          · have t34 : ((s[k].toNat : Int) == 34) = false := by rw [h1]; rfl
            have t92 : ((s[k].toNat : Int) == 92) = true := by rw [h1]; rfl
            clear h1
            go_wp2_with fail
            refine (wb_any _ _ _ 92 _ hB (by simp; omega)).mono ?_
            rintro e w2 ⟨rfl, hB2, hb2⟩
            go_wp2_with fail
            refine (wb_any _ _ _ s[k] _ hB2 (by simp; omega)).mono ?_
            rintro e w3 ⟨rfl, hB3, hb3⟩
            go_wp2_with fail
            go_roundw
            case rel => exact ⟨k + 1, by omega, by go_num, by rw [HQ.out]; exact hB3, (hbl.trans hb2).trans hb3⟩
            case measure => simp [intOf]; omega
        · have t34 : ((s[k].toNat : Int) == 34) = false := beq_eq_false_iff_ne.2 (fun e => h1 (.inl (UInt8.toNat_inj.1 (by have : (34 : UInt8).toNat = 34 := rfl; omega))))
          have t92 : ((s[k].toNat : Int) == 92) = false := beq_eq_false_iff_ne.2 (fun e => h1 (.inr (UInt8.toNat_inj.1 (by have : (92 : UInt8).toNat = 92 := rfl; omega))))
          by_cases h32 : s[k].toNat < 32
          · have t32 : decide ((s[k].toNat : Int) < 32) = true := decide_eq_true (by omega)
            have hqb : Tk.qb s[k] = [92, 117, 48, 48] ++ [Tk.hx (s[k].toNat / 16)] ++ [Tk.hx (s[k].toNat % 16)] := by unfold Tk.qb; rw [if_neg h1, if_pos h32]; rfl
            rw [hqb, ← List.append_assoc, ← List.append_assoc] at hq
            have HQ := Lib.hid hq
            have x1 := six_ix (s[k].toNat / 16) (by omega)
            have x2 := six_ix (s[k].toNat % 16) (by omega)
            have x3 : bits .and .u8 (s[k].toNat : Int) 15 = (s[k].toNat : Int) % 16 := (u8_mask s[k] 15 16 (by decide) nat_mask4).trans (by simp)
            clear hq hqb hta h1
            go_wp2_with fail
            refine (ws_any _ _ _ ⟨#[92, 117, 48, 48]⟩ _ hB (by simp; omega) (by decide)).mono ?_
            rintro e w2 ⟨rfl, hB2, hb2⟩
            go_wp2_with fail
            refine (wb_any _ _ _ (Tk.hx (s[k].toNat / 16)) _ hB2 (by simp; omega)).mono ?_
            rintro e w3 ⟨rfl, hB3, hb3⟩
            go_wp2_with fail
            refine (wb_any _ _ _ (Tk.hx (s[k].toNat % 16)) _ hB3 (by simp; omega)).mono ?_
            rintro e w4 ⟨rfl, hB4, hb4⟩
            go_wp2_with fail
            go_roundw
            case rel => exact ⟨k + 1, by omega, by go_num, by rw [HQ.out]; exact hB4, ((hbl.trans hb2).trans hb3).trans hb4⟩
            case measure => simp [intOf]; omega
          · have t32 : decide ((s[k].toNat : Int) < 32) = false := decide_eq_false (by omega)
            have hqb : Tk.qb s[k] = [s[k]] := by unfold Tk.qb; rw [if_neg h1, if_neg h32]
            rw [hqb] at hq
            have HQ := Lib.hid hq
            clear hq hqb hta h1
            go_wp2_with fail
            refine (wb_any _ _ _ s[k] _ hB (by simp; omega)).mono ?_
            rintro e w2 ⟨rfl, hB2, hb2⟩
            go_wp2_with fail
            go_roundw
            case rel => exact ⟨k + 1, by omega, by go_num, by rw [HQ.out]; exact hB2, hbl.trans hb2⟩
            case measure => simp [intOf]; omega
      · obtain rfl : k = s.size := by omega
        rw [List.take_of_length_le (by rw [len_data]; omega)] at hB hll
        go_wp2_with fail
        refine (wb_any _ _ _ 34 _ hB (by simp; omega)).mono ?_
        rintro e w3 ⟨rfl, hB3, hb3⟩
        go_wp2_with fail
        refine (bstr_any _ _ _ _ hB3).mono ?_
        rintro e w4 ⟨rfl, hb4⟩
        go_wp2_with fail
        go_ret
        exact ⟨rfl, hb1.trans (((hbl.trans hb3).trans hb4).mono hb1.size)⟩

end Go.Proofs.Ythbpkmmnoeikoaa
