/-
  Several texts in one, each with its own head below. Conditions: as each says.
-/
import Derived.Test.YthbpkmmnoeikoaaJm20
import Derived.Test.YthbpkmmnoeikoaaJm21
import Derived.Deep.RegionHeld
import Derived.Test.YthbpkmmnoeikoaaJm12
import Derived.Test.YthbpkmmnoeikoaaRows
import Derived.SliceStrings
import Derived.Deep.Slices
import Derived.SizedLaws
import Derived.WalkKit
import Derived.ProofKit
import Derived.OpenShut
import Derived.ShutString
import Derived.ChangeOld
import Derived.Below
/-
  The reference's count, Deep and Great of a value that reads as a thing. Condition: no row of it is longer than two million.
-/
namespace Go.Proofs.Ythbpkmmnoeikoaa
open Go Go.RowKit
set_option linter.unusedVariables false
set_option linter.unusedSimpArgs false

mutual
/-- what is left of n when a thing's parts are taken away; -1: it is too deep, or too much -/
def cnt : Nat → Js.J → Int → Int → Int
  | 0, _, _, _ => -1
  | k + 1, .mk _ _ _ ns xs, n, d => if n - 1 - (ns.length : Int) < 0 ∨ d < 0 then -1 else cnts k xs (n - 1 - (ns.length : Int)) (d - 1)
def cnts : Nat → List Js.J → Int → Int → Int
  | _, [], n, _ => n
  | k, x :: xs, n, d => if cnt k x n d < 0 then -1 else cnts k xs (cnt k x n d) d
end
theorem cnts_nil (k : Nat) (n d : Int) : cnts k [] n d = n := by unfold cnts; rfl
theorem cnts_cons (k : Nat) (x : Js.J) (xs : List Js.J) (n d : Int) : cnts k (x :: xs) n d = if cnt k x n d < 0 then -1 else cnts k xs (cnt k x n d) d := by conv => lhs; unfold cnts
theorem cnt_succ (k : Nat) (kd m : Int) (s : List UInt8) (ns : List (List UInt8)) (xs : List Js.J) (n d : Int) :
    cnt (k + 1) (.mk kd m s ns xs) n d = if n - 1 - (ns.length : Int) < 0 ∨ d < 0 then -1 else cnts k xs (n - 1 - (ns.length : Int)) (d - 1) := by conv => lhs; unfold cnt

/-- what is counted is no more than so much, and each row of it is short -/
theorem cnt_le : ∀ (k : Nat) (j : Js.J) (n d : Int), 0 ≤ cnt k j n d → cnt k j n d ≤ n - 1 ∧ ∀ N : Nat, n ≤ (N : Int) → Bd N j ∧ dp k j ≤ (d + 1).toNat
  | 0, _, _, _, h => by unfold cnt at h; omega
  | k + 1, .mk kd m s ns xs, n, d, h => by
    rw [cnt_succ] at h ⊢
    by_cases hc : n - 1 - (ns.length : Int) < 0 ∨ d < 0
    · rw [if_pos hc] at h; omega
    rw [if_neg hc] at h ⊢
    have key : ∀ (ys : List Js.J) (q : Int), 0 ≤ cnts k ys q (d - 1) → cnts k ys q (d - 1) ≤ q - (ys.length : Int) ∧ ∀ N : Nat, q ≤ (N : Int) → (∀ i (h : i < ys.length), Bd N ys[i]) ∧ (ys.map (dp k)).foldl max 0 ≤ d.toNat := by
      intro ys
      induction ys with
      | nil =>
        intro q hq
        rw [cnts_nil] at hq ⊢
        exact ⟨by simp, fun N _ => ⟨fun i h => by simp at h, by simp⟩⟩
      | cons y ys ih =>
        intro q hq
        rw [cnts_cons] at hq ⊢
        by_cases hy : cnt k y q (d - 1) < 0
        · rw [if_pos hy] at hq; omega
        rw [if_neg hy] at hq ⊢
        obtain ⟨a1, a2⟩ := cnt_le k y q (d - 1) (by omega)
        obtain ⟨b1, b2⟩ := ih _ hq
        refine ⟨by rw [List.length_cons]; omega, fun N hN => ?_⟩
        obtain ⟨a3, a4⟩ := a2 N hN
        obtain ⟨b3, b4⟩ := b2 N (by omega)
        refine ⟨fun i h => ?_, ?_⟩
        · cases i with
          | zero => exact a3
          | succ i => exact b3 i (by simpa using h)
        · have hm : ∀ (l : List Nat) (a b : Nat), l.foldl max (max a b) = max a (l.foldl max b) := by
            intro l
            induction l with
            | nil => intro a b; rfl
            | cons x l ih => intro a b; rw [List.foldl_cons, List.foldl_cons, Nat.max_assoc, ih]
          rw [List.map_cons, List.foldl_cons, Nat.max_comm, hm]
          have : (d - 1 + 1).toNat = d.toNat := by omega
          omega
    obtain ⟨c1, c2⟩ := key xs _ h
    refine ⟨by omega, fun N hN => ?_⟩
    obtain ⟨c3, c4⟩ := c2 N (by omega)
    refine ⟨.mk _ _ _ _ _ (by omega) (by omega) c3, ?_⟩
    unfold dp
    have : (if kd = 5 ∨ kd = 6 then 1 else 0 : Nat) ≤ 1 := by split <;> omega
    omega

def CnR (k : Nat) (xs : List Js.J) (N D : Int) (w0 : World) (n i : Value) (w : World) : Prop := ∃ (a : Nat) (q : Int), a ≤ xs.length ∧ i = .int .i64 (a : Int) ∧ n = .int .i64 q ∧ 0 ≤ q ∧ q ≤ 2000 ∧ Below w0.heap.size w0 w ∧ Hid (cnts k xs N D = cnts k (xs.drop a) q D)

set_option maxRecDepth 100000 in
set_option maxHeartbeats 4000000 in
theorem rcount_any : ∀ (k : Nat) (j : Js.J) (v : Value) (S : Nat → Prop) (W : World) (n d : Int), JVn k S W v j → (∀ b, S b → b < W.heap.size) → Bd 2000000 j → 0 ≤ n → n ≤ 2000 → -2 ≤ d → d ≤ 20 →
    Calls Try.prog 53 #[v, .int .i64 n, .int .i64 d] W fun e W' => e = .returned (.int .i64 (cnt k j n d)) ∧ Below W.heap.size W W'
  | 0, _, _, _, _, _, _, h, _, _, _, _, _, _ => h.elim
  | k + 1, .mk kd m s ns xs, v, S, W, n, d, h, hS, hB, hn0, hn1, hd0, hd1 => by
    have IH := Lib.hid (fun j v S W n d => rcount_any k j v S W n d)
    obtain ⟨_, _, _, _, _, b1, b2, b3⟩ := hB
    obtain ⟨vn, vl, rfl, ⟨p1, c1, rfl, hnn⟩, ⟨p2, c2, rfl, hi⟩⟩ := h
    have hx := heap_alloc_new W (.cells #[.int .i64 kd, .int .i64 m, .string (bs s), .slice p1 ns.length c1, .slice p2 xs.length c2] 41)
    have hb : Below W.heap.size W (W.alloc (.cells #[.int .i64 kd, .int .i64 m, .string (bs s), .slice p1 ns.length c1, .slice p2 xs.length c2] 41)) := (Below.refl _ W).alloc (Nat.le_refl _) _
    have HI := Lib.hid hi
    have HB3 := Lib.hid b3
    clear hi hnn b3
    obtain ⟨r, hr0⟩ : ∃ r, r = cnt (k + 1) (.mk kd m s ns xs) n d := ⟨_, rfl⟩
    rw [← hr0]
    rw [cnt_succ] at hr0
    have hw1 : IntKind.i64.wrap (n - 1 - (ns.length : Int)) = n - 1 - (ns.length : Int) := IntWalk.i64_in _ (by omega)
    have hw2 : IntKind.i64.wrap (n - 1) = n - 1 := IntWalk.i64_in _ (by omega)
    have hw3 : IntKind.i64.wrap (d - 1) = d - 1 := IntWalk.i64_in _ (by omega)
    obtain ⟨x0, x1, x2, x3, x4⟩ := tok_cells hx
    by_cases hc1 : n - 1 - (ns.length : Int) < 0
    · rw [if_pos (.inl hc1)] at hr0
      have tn : decide (n - 1 - (ns.length : Int) < 0) = true := decide_eq_true hc1
      have HR := Lib.hid hr0
      clear hc1 hr0
      go_enter Try.func53, Try.ntmps53
      go_wp2_with fail
      exact bodyPost_ret (v := .int .i64 (-1)) (by simp [results, Try.results53, go_sem]) rfl ⟨by rw [HR.out], hb⟩
    have tn : decide (n - 1 - (ns.length : Int) < 0) = false := decide_eq_false hc1
    by_cases hc2 : d < 0
    · rw [if_pos (.inr hc2)] at hr0
      have td : decide (d < 0) = true := decide_eq_true hc2
      have HR := Lib.hid hr0
      clear hc1 hc2 hr0
      go_enter Try.func53, Try.ntmps53
      go_wp2_with fail
      exact bodyPost_ret (v := .int .i64 (-1)) (by simp [results, Try.results53, go_sem]) rfl ⟨by rw [HR.out], hb⟩
    have td : decide (d < 0) = false := decide_eq_false hc2
    rw [if_neg (by omega)] at hr0
    have HR := Lib.hid hr0
    clear hr0
    go_enter Try.func53, Try.ntmps53
    go_wp2_with fail
    generalize W.alloc (.cells #[.int .i64 kd, .int .i64 m, .string (bs s), .slice p1 ns.length c1, .slice p2 xs.length c2] 41) = W2 at *
    go_loopw [1, 7] (CnR k xs (n - 1 - (ns.length : Int)) (d - 1) W2) (fun _ i _ => xs.length - (intOf i).toNat)
    case atStart => exact ⟨0, _, Nat.zero_le _, by go_num, rfl, by omega, by omega, Below.refl _ _, rfl⟩
    case round =>
      clear x0 x1 x2 x3 x4
      obtain ⟨i, q, hi, rfl, rfl, hq0, hq1, hbl, HK⟩ := hrel
      have hWl : W.heap.size < W2.heap.size := (Array.getElem?_eq_some_iff.1 hx).1
      obtain ⟨x0, x1, x2, x3, x4⟩ := tok_cells ((hbl.block W.heap.size hWl).trans hx)
      have hbW := hb.trans (hbl.mono hb.size)
      by_cases hlt : i < xs.length
      · have tl : decide ((i : Int) < (xs.length : Int)) = true := decide_eq_true (by omega)
        obtain ⟨e1, o1, d0, d1, d2, d3, d4, rfl, hs1, ⟨g0, g1, g2, g3, g4⟩, hr1⟩ := HI.out i hlt
        obtain ⟨u0, u1, u2, u3, u4, u5, u6, u7, u8, he⟩ := hr1.form2
        simp at he
        obtain ⟨rfl, rfl, rfl, rfl, rfl⟩ := he
        have q1 := hbW.block e1 (hS e1 hs1)
        have g0 := cell_same q1 g0
        have g1 := cell_same q1 g1
        have g2 := cell_same q1 g2
        have g3 := cell_same q1 g3
        have g4 := cell_same q1 g4
        have hk := HK.out
        rw [List.drop_eq_getElem_cons hlt, cnts_cons] at hk
        have hcall := IH.out xs[i] _ S wr q (d - 1) (hr1.below hS hbW) (fun b h => Nat.lt_of_lt_of_le (hS b h) hbW.size) (HB3.out i hlt) hq0 hq1 (by omega) (by omega)
        have hcle := cnt_le k xs[i] q (d - 1)
        clear q1 hr1
        generalize cnt k xs[i] q (d - 1) = C at *
        by_cases hC : C < 0
        · have tc : decide (C < 0) = true := decide_eq_true hC
          rw [if_pos hC] at hk
          have hrm : r = -1 := HR.out.trans hk
          have HRM := Lib.hid hrm
          clear hk hrm hC HR hcle
          go_wp2_with fail
          refine hcall.mono ?_
          rintro e w1 ⟨rfl, hb1⟩
          go_wp2_with fail
          exact bodyPost_ret (v := .int .i64 (-1)) (by simp [results, Try.results53, go_sem]) rfl ⟨by rw [HRM.out], hbW.trans (hb1.mono hbW.size)⟩
        · have tc : decide (C < 0) = false := decide_eq_false hC
          rw [if_neg hC] at hk
          have HK2 := Lib.hid hk
          have hC0 : 0 ≤ C := by omega
          have hC1 : C ≤ 2000 := by have := (hcle hC0).1; omega
          clear hk hC hcle
          go_wp2_with fail
          refine hcall.mono ?_
          rintro e w1 ⟨rfl, hb1⟩
          go_wp2_with fail
          go_roundw
          case rel => exact ⟨i + 1, C, by omega, by go_num, rfl, hC0, hC1, hbl.trans (hb1.mono hbl.size), HK2⟩
          case measure => simp [intOf]; omega
      · obtain rfl : i = xs.length := by omega
        have tl : decide ((xs.length : Int) < (xs.length : Int)) = false := decide_eq_false (by omega)
        have hk := HK.out
        rw [List.drop_of_length_le (Nat.le_refl _), cnts_nil] at hk
        have hrm : r = q := HR.out.trans hk
        have HRM := Lib.hid hrm
        clear hk hrm HR
        go_wp2_with fail
        exact bodyPost_ret (v := .int .i64 q) (by simp [results, Try.results53, go_sem]) rfl ⟨by rw [HRM.out], hbW⟩

end Go.Proofs.Ythbpkmmnoeikoaa

/-
  The reference's Deep and Great of a value that reads as a thing. Condition: no row of it is longer than two million.
-/
namespace Go.Proofs.Ythbpkmmnoeikoaa
open Go Go.RowKit
set_option linter.unusedVariables false
set_option linter.unusedSimpArgs false

def RdR (l : List Nat) (w0 : World) (n i : Value) (w : World) : Prop := ∃ k : Nat, k ≤ l.length ∧ i = .int .i64 (k : Int) ∧ n = .int .i64 (((l.take k).foldl max 0 : Nat) : Int) ∧ Below w0.heap.size w0 w

set_option maxRecDepth 100000 in
set_option maxHeartbeats 2000000 in
theorem rdeep_any : ∀ (k : Nat) (j : Js.J) (v : Value) (S : Nat → Prop) (W : World), JVn k S W v j → (∀ b, S b → b < W.heap.size) → Bd 1000000 j → dp k j ≤ 1000000 →
    Calls Try.prog 54 #[v] W fun e W' => e = .returned (.int .i64 (dp k j : Int)) ∧ Below W.heap.size W W'
  | 0, _, _, _, _, h, _, _, _ => h.elim
  | k + 1, .mk kd m s ns xs, v, S, W, h, hS, hB, hD => by
    have IH := Lib.hid (fun j v S W => rdeep_any k j v S W)
    obtain ⟨_, _, _, _, _, b1, b2, b3⟩ := hB
    obtain ⟨vn, vl, rfl, ⟨p1, c1, rfl, hn⟩, ⟨p2, c2, rfl, hi⟩⟩ := h
    have hx := heap_alloc_new W (.cells #[.int .i64 kd, .int .i64 m, .string (bs s), .slice p1 ns.length c1, .slice p2 xs.length c2] 41)
    have hb : Below W.heap.size W (W.alloc (.cells #[.int .i64 kd, .int .i64 m, .string (bs s), .slice p1 ns.length c1, .slice p2 xs.length c2] 41)) := (Below.refl _ W).alloc (Nat.le_refl _) _
    have HI := Lib.hid hi
    have HB3 := Lib.hid b3
    have hd0 : (xs.map (dp k)).foldl max 0 ≤ 1000000 := by have := hD; unfold dp at this; omega
    have HD := Lib.hid hd0
    have hmem : ∀ i (h : i < xs.length), dp k xs[i] ≤ 1000000 := fun i h => by
      have h1 := foldl_take_le (xs.map (dp k)) (i + 1) 0
      rw [List.take_add_one, List.foldl_append] at h1
      rw [List.getElem?_map, List.getElem?_eq_getElem h] at h1
      simp at h1
      omega
    have HM := Lib.hid hmem
    clear hi hn b3 hd0 hmem
    have hll : (xs.map (dp k)).length = xs.length := by simp
    obtain ⟨r, hr0⟩ : ∃ r, r = dp (k + 1) (.mk kd m s ns xs) := ⟨_, rfl⟩
    rw [← hr0]
    unfold dp at hr0
    have HR := Lib.hid hr0
    clear hr0
    go_enter Try.func54, Try.ntmps54
    go_wp2_with fail
    generalize W.alloc (.cells #[.int .i64 kd, .int .i64 m, .string (bs s), .slice p1 ns.length c1, .slice p2 xs.length c2] 41) = W2 at *
    go_loopw [3, 4] (RdR (xs.map (dp k)) W2) (fun _ i _ => xs.length - (intOf i).toNat)
    case atStart => exact ⟨0, Nat.zero_le _, by go_num, rfl, Below.refl _ _⟩
    case round =>
      obtain ⟨i, hi, rfl, rfl, hbl⟩ := hrel
      have hWl : W.heap.size < W2.heap.size := (Array.getElem?_eq_some_iff.1 hx).1
      obtain ⟨x0, x1, x2, x3, x4⟩ := tok_cells ((hbl.block W.heap.size hWl).trans hx)
      rw [hll] at hi
      have hbW := hb.trans (hbl.mono hb.size)
      have hmax : (((xs.map (dp k)).take i).foldl max 0) ≤ 1000000 := Nat.le_trans (foldl_take_le _ _ _) HD.out
      by_cases hlt : i < xs.length
      · have tl : decide ((i : Int) < (xs.length : Int)) = true := decide_eq_true (by omega)
        obtain ⟨e1, o1, d0, d1, d2, d3, d4, rfl, hs1, ⟨g0, g1, g2, g3, g4⟩, hr1⟩ := HI.out i hlt
        obtain ⟨u0, u1, u2, u3, u4, u5, u6, u7, u8, he⟩ := hr1.form2
        simp at he
        obtain ⟨rfl, rfl, rfl, rfl, rfl⟩ := he
        have q1 := hbW.block e1 (hS e1 hs1)
        have g0 := cell_same q1 g0
        have g1 := cell_same q1 g1
        have g2 := cell_same q1 g2
        have g3 := cell_same q1 g3
        have g4 := cell_same q1 g4
        have hst : ((xs.map (dp k)).take (i + 1)).foldl max 0 = max (((xs.map (dp k)).take i).foldl max 0) (dp k xs[i]) := by
          rw [List.take_add_one, List.foldl_append, List.getElem?_map, List.getElem?_eq_getElem hlt]; rfl
        have HST := Lib.hid hst
        have hcall := IH.out xs[i] _ S wr (hr1.below hS hbW) (fun b h => Nat.lt_of_lt_of_le (hS b h) hbW.size) (HB3.out i hlt) (HM.out i hlt)
        have hdm := HM.out i hlt
        clear hst q1 hr1 IH HI HB3 HM HD
        generalize dp k xs[i] = D at *
        generalize ((xs.map (dp k)).take i).foldl max 0 = A at *
        by_cases hc : D > A
        · have t1 : decide ((D : Int) > (A : Int)) = true := decide_eq_true (by omega)
          have t2 : decide (A < D) = true := decide_eq_true hc
          have hmx : max A D = D := by omega
          have HMX := Lib.hid hmx
          clear hc hmx
          go_wp2_with fail
          refine hcall.mono ?_
          rintro e w1 ⟨rfl, hb1⟩
          go_wp2_with fail
          go_roundw
          case rel => exact ⟨i + 1, by rw [hll]; omega, by go_num, by rw [HST.out, HMX.out], hbl.trans (hb1.mono hbl.size)⟩
          case measure => simp [intOf]; omega
        · have t1 : decide ((D : Int) > (A : Int)) = false := decide_eq_false (by omega)
          have t2 : decide (A < D) = false := decide_eq_false hc
          have hmx : max A D = A := by omega
          have HMX := Lib.hid hmx
          clear hc hmx
          go_wp2_with fail
          refine hcall.mono ?_
          rintro e w1 ⟨rfl, hb1⟩
          go_wp2_with fail
          go_roundw
          case rel => exact ⟨i + 1, by rw [hll]; omega, by go_num, by rw [HST.out, HMX.out], hbl.trans (hb1.mono hbl.size)⟩
          case measure => simp [intOf]; omega
      · obtain rfl : i = xs.length := by omega
        have tl : decide ((xs.length : Int) < (xs.length : Int)) = false := decide_eq_false (by omega)
        have hfull : (xs.map (dp k)).take xs.length = xs.map (dp k) := List.take_of_length_le (by rw [hll]; exact Nat.le_refl _)
        rw [hfull] at hmax ⊢
        clear hfull hll IH HI HB3 HM HD
        unfold dp at hD
        generalize (xs.map (dp k)).foldl max 0 = A at *
        by_cases h4 : kd > 4
        · have t4 : decide (kd > 4) = true := decide_eq_true h4
          by_cases h7 : kd < 7
          · have t7 : decide (kd < 7) = true := decide_eq_true h7
            obtain rfl : r = A + 1 := HR.out.trans (by rw [if_pos (by omega)])
            clear hD h4 h7 HR
            go_wp2
            exact bodyPost_ret (v := .int .i64 ((A + 1 : Nat) : Int)) (by simp [results, Try.results54, go_sem]) rfl ⟨rfl, hbW⟩
          · have t7 : decide (kd < 7) = false := decide_eq_false h7
            have hrA : (r : Int) = (A : Int) := by rw [HR.out, if_neg (by omega)]; rfl
            have HRA := Lib.hid hrA
            clear hD h4 h7 HR hrA
            go_wp2
            exact bodyPost_ret (v := .int .i64 (A : Int)) (by simp [results, Try.results54, go_sem]) rfl ⟨by rw [HRA.out], hbW⟩
        · have t4 : decide (kd > 4) = false := decide_eq_false h4
          have hrA : (r : Int) = (A : Int) := by rw [HR.out, if_neg (by omega)]; rfl
          have HRA := Lib.hid hrA
          clear hD h4 HR hrA
          go_wp2
          exact bodyPost_ret (v := .int .i64 (A : Int)) (by simp [results, Try.results54, go_sem]) rfl ⟨by rw [HRA.out], hbW⟩

set_option maxRecDepth 100000 in
set_option maxHeartbeats 2000000 in
theorem rgreat_any (k : Nat) (j : Js.J) (v : Value) (S : Nat → Prop) (W : World) (h : JVn k S W v j) (hS : ∀ b, S b → b < W.heap.size) (hB : Bd 2000000 j) :
    Calls Try.prog 28 #[v] W fun e W' => (∃ g, e = .returned (.bool g) ∧ (g = false → Bd 2000 j)) ∧ Below W.heap.size W W' := by
  obtain ⟨u0, u1, u2, u3, u4, u5, u6, u7, u8, rfl⟩ := h.form2
  have hx := heap_alloc_new W (.cells #[.int .i64 u0, .int .i64 u1, .string u2, .slice u3 u4 u5, .slice u6 u7 u8] 41)
  have hb : Below W.heap.size W (W.alloc (.cells #[.int .i64 u0, .int .i64 u1, .string u2, .slice u3 u4 u5, .slice u6 u7 u8] 41)) := (Below.refl _ W).alloc (Nat.le_refl _) _
  have hxl : W.heap.size < (W.alloc (.cells #[.int .i64 u0, .int .i64 u1, .string u2, .slice u3 u4 u5, .slice u6 u7 u8] 41)).heap.size := by simp
  obtain ⟨x0, x1, x2, x3, x4⟩ := tok_cells hx
  have hc := rcount_any k j _ S _ 2000 20 (h.below hS hb) (fun b h => Nat.lt_of_lt_of_le (hS b h) hb.size) hB (by omega) (by omega) (by omega) (by omega)
  have hle := cnt_le k j 2000 20
  have hD := rdeep_any k j (.agg #[.int .i64 u0, .int .i64 u1, .string u2, .slice u3 u4 u5, .slice u6 u7 u8]) S
  have HD := Lib.hid hD
  clear hD
  generalize cnt k j 2000 20 = C at *
  by_cases hC : C < 0
  · have tc : decide (C < 0) = true := decide_eq_true hC
    clear hC
    go_enter Try.func28, Try.ntmps28
    go_wp2_with fail
    refine hc.mono ?_
    rintro e w1 ⟨rfl, hb1⟩
    go_wp2_with fail
    exact bodyPost_ret (v := .bool true) (by simp [results, Try.results28, go_sem]) rfl ⟨⟨true, rfl, fun h => by cases h⟩, hb.trans (hb1.mono hb.size)⟩
  · have tc : decide (C < 0) = false := decide_eq_false hC
    obtain ⟨_, h2⟩ := hle (by omega)
    obtain ⟨hB2, hdp⟩ := h2 2000 (by omega)
    have hB3 : Bd 1000000 j := by
      clear hc hle HD h2 hdp h hB
      induction hB2 with
      | mk kd c s ns xs h1 h2 h3 ih => exact .mk _ _ _ _ _ (by omega) (by omega) ih
    have hd2 : dp k j ≤ 1000000 := by have : (20 + 1 : Int).toNat = 21 := rfl; omega
    clear hC hle h2
    go_enter Try.func28, Try.ntmps28
    go_wp2_with fail
    refine hc.mono ?_
    rintro e w1 ⟨rfl, hb1⟩
    have hb2 := hb.trans (hb1.mono hb.size)
    obtain ⟨x0, x1, x2, x3, x4⟩ := tok_cells ((hb1.block _ hxl).trans hx)
    go_wp2_with fail
    refine (HD.out w1 (h.below hS hb2) (fun b h => Nat.lt_of_lt_of_le (hS b h) hb2.size) hB3 hd2).mono ?_
    rintro e w2 ⟨rfl, hb3⟩
    go_wp2_with fail
    exact bodyPost_ret (v := .bool (decide ((dp k j : Int) > 20))) (by simp [results, Try.results28, go_sem]) rfl ⟨⟨_, rfl, fun _ => hB2⟩, hb2.trans (hb3.mono hb2.size)⟩

end Go.Proofs.Ythbpkmmnoeikoaa

/-
  The walk of the law JsonFinds. Condition: no row of the thing is longer than two million, its texts are shorter than 2^32 - 15 bytes.
-/
namespace Go.Proofs.Ythbpkmmnoeikoaa
open Go Go.RowKit Go.Deep
set_option linter.unusedVariables false
set_option linter.unusedSimpArgs false

/-- what is right has its names once, and as many things as names -/
theorem rt_facts {k : Nat} {kd n : Int} {s : List UInt8} {ns : List (List UInt8)} {xs : List Js.J} (h : rt (k + 1) (.mk kd n s ns xs) = true) :
    (kd ≠ 6 → ns = []) ∧ (kd = 6 → ns.length = xs.length ∧ nmK ns ns.length) := by
  unfold rt at h
  simp only [Bool.and_eq_true, Bool.not_eq_true', Bool.or_eq_false_iff, decide_eq_false_iff_not] at h
  obtain ⟨⟨⟨⟨⟨_, _⟩, _⟩, r4⟩, r5⟩, _⟩ := h
  refine ⟨fun h6 => ?_, fun h6 => ?_⟩
  · rcases ns with _ | ⟨a, l⟩
    · rfl
    · exact absurd (.inl ⟨h6, by simp⟩) r4
  · rw [decide_eq_true h6, Bool.true_and, Bool.or_eq_false_iff] at r5
    refine ⟨?_, ?_⟩
    · by_cases hl : ns.length = xs.length
      · exact hl
      · have := r5.1
        rw [decide_eq_true hl] at this
        cases this
    · have := r5.2
      unfold nmOk at this
      by_cases hk : nmK ns ns.length
      · exact hk
      · rw [decide_eq_false hk] at this
        cases this
theorem bd_mono2 {n m : Nat} {j : Js.J} (h : Bd n j) (hnm : n ≤ m) : Bd m j := by
  induction h with
  | mk kd c s ns xs h1 h2 h3 ih => exact .mk _ _ _ _ _ (by omega) (by omega) ih
theorem s11 {w w' : World} {a0 a1 a2 a3 a4 a5 a6 a7 a8 a9 a10 : Addr} {u0 u1 u2 u3 u4 u5 u6 u7 u8 u9 u10 : Value} (hb : Below w.heap.size w w') (h : w.cell? a0 = some u0 ∧ w.cell? a1 = some u1 ∧ w.cell? a2 = some u2 ∧ w.cell? a3 = some u3 ∧ w.cell? a4 = some u4 ∧ w.cell? a5 = some u5 ∧ w.cell? a6 = some u6 ∧ w.cell? a7 = some u7 ∧ w.cell? a8 = some u8 ∧ w.cell? a9 = some u9 ∧ w.cell? a10 = some u10) :
    w'.cell? a0 = some u0 ∧ w'.cell? a1 = some u1 ∧ w'.cell? a2 = some u2 ∧ w'.cell? a3 = some u3 ∧ w'.cell? a4 = some u4 ∧ w'.cell? a5 = some u5 ∧ w'.cell? a6 = some u6 ∧ w'.cell? a7 = some u7 ∧ w'.cell? a8 = some u8 ∧ w'.cell? a9 = some u9 ∧ w'.cell? a10 = some u10 := by
  obtain ⟨h0, h1, h2, h3, h4, h5, h6, h7, h8, h9, h10⟩ := h
  exact ⟨cell_below hb h0, cell_below hb h1, cell_below hb h2, cell_below hb h3, cell_below hb h4, cell_below hb h5, cell_below hb h6, cell_below hb h7, cell_below hb h8, cell_below hb h9, cell_below hb h10⟩
theorem jv_zero (S : Nat → Prop) (W : World) : JVn 1 S W (.agg #[.int .i64 0, .int .i64 0, .string ⟨#[]⟩, .slice none 0 0, .slice none 0 0]) (.mk 0 0 [] [] []) :=
  ⟨_, _, rfl, ⟨none, 0, rfl, fun i hi => by simp at hi⟩, ⟨none, 0, rfl, fun i hi => by simp at hi⟩⟩
def FnN (n : Nat) (w0 : World) (c i : Value) (w : World) : Prop := ∃ a : Nat, a ≤ n ∧ i = .int .i64 (a : Int) ∧ c = .int .i64 0 ∧ w = w0
def FnF (n i0 : Nat) (w0 : World) (c i : Value) (w : World) : Prop := ∃ (a : Nat) (m : Int), a ≤ n ∧ i = .int .i64 (a : Int) ∧ c = .int .i64 m ∧ Hid (m = if i0 < a then 1 else 0) ∧ Below w0.heap.size w0 w

set_option maxRecDepth 100000 in
set_option maxHeartbeats 8000000 in
theorem jsonFinds_walk (k : Nat) (j : Js.J) (v : Value) (S : Nat → Prop) (nm : ByteArray) (w : World) (h : JVn k S w v j) (hS : ∀ b, S b → b < w.heap.size) (hB : Bd 2000000 j) (hZ : Sz 4294967280 j) :
    Calls Try.prog 9 #[v, .string nm] w fun e w' => e = .returned (.bool true) ∧ Below w.heap.size w w' := by
  have HA := Lib.hid jalive_any
  cases k with
  | zero => exact h.elim
  | succ k =>
  obtain ⟨kd, m, s, ns, xs⟩ := j
  obtain ⟨l, rfl⟩ : ∃ l, nm = bs l := ⟨nm.data.toList, rfl⟩
  obtain ⟨vn, vl, hv, hn, hi⟩ := id h
  obtain ⟨p1, c1, rfl, hn⟩ := hn
  obtain ⟨p2, c2, rfl, hi⟩ := hi
  have HN := Lib.hid hn
  have HI := Lib.hid hi
  clear hn hi
  obtain ⟨V, hV⟩ : ∃ V : Value, V = .agg #[.int .i64 kd, .int .i64 m, str s, .slice p1 ns.length c1, .slice p2 xs.length c2] := ⟨_, rfl⟩
  subst hv
  have hx := heap_alloc_new w (.cells #[.int .i64 kd, .int .i64 m, .string (bs s), .slice p1 ns.length c1, .slice p2 xs.length c2] 41)
  have hb0 : Below w.heap.size w (w.alloc (.cells #[.int .i64 kd, .int .i64 m, .string (bs s), .slice p1 ns.length c1, .slice p2 xs.length c2] 41)) := (Below.refl _ w).alloc (Nat.le_refl _) _
  have hxl : w.heap.size < (w.alloc (.cells #[.int .i64 kd, .int .i64 m, .string (bs s), .slice p1 ns.length c1, .slice p2 xs.length c2] 41)).heap.size := by simp
  have zl : (bs l).size = l.length := bs_size l
  go_enter Try.func9, Try.ntmps9
  go_wp2_with fail
  generalize w.alloc (.cells #[.int .i64 kd, .int .i64 m, .string (bs s), .slice p1 ns.length c1, .slice p2 xs.length c2] 41) = W0 at *
  refine (HA.out _).mono ?_
  rintro e w1 ⟨rfl, hb1⟩
  have hx1 := (hb1.block _ hxl).trans hx
  have hl1 : w.heap.size < w1.heap.size := (Array.getElem?_eq_some_iff.1 hx1).1
  have hw1 := hb0.trans (hb1.mono hb0.size)
  have hS1 : ∀ b, S b → b < w1.heap.size := fun b h => Nat.lt_of_lt_of_le (hS b h) hw1.size
  have hj1 := h.below hS hw1
  obtain ⟨x0, x1, x2, x3, x4⟩ := tok_cells hx1
  clear hx hb0 hb1 hxl
  go_wp2_with fail
  refine (rgreat_any (k + 1) _ _ S w1 hj1 hS1 hB).mono ?_
  rintro e w2 ⟨⟨g, rfl, hg⟩, hb2⟩
  have hw2 := hw1.trans (hb2.mono hw1.size)
  have hx2 := (hb2.block _ hl1).trans hx1
  have hl2 : w.heap.size < w2.heap.size := (Array.getElem?_eq_some_iff.1 hx2).1
  clear x0 x1 x2 x3 x4
  obtain ⟨x0, x1, x2, x3, x4⟩ := tok_cells hx2
  cases g with
  | true =>
    go_wp2_with fail
    exact bodyPost_ret (v := .bool true) (by simp [results, Try.results9, go_sem]) rfl ⟨rfl, hw2⟩
  | false =>
  have hB2 := hg rfl
  have hB3 := bd_mono2 hB2 (show 2000 ≤ 1000000 by decide)
  by_cases hnl : l.length > 300
  · have tn : decide ((l.length : Int) > 300) = true := decide_eq_true (by omega)
    have tn2 : decide (300 < l.length) = true := decide_eq_true (by omega)
    go_wp2_with fail
    exact bodyPost_ret (v := .bool true) (by simp [results, Try.results9, go_sem]) rfl ⟨rfl, hw2⟩
  have tn : decide ((l.length : Int) > 300) = false := decide_eq_false (by omega)
  have tn2 : decide (300 < l.length) = false := decide_eq_false (by omega)
  obtain ⟨hnN, hxN⟩ : ns.length ≤ 2000 ∧ xs.length ≤ 2000 := by
    obtain ⟨_, _, _, _, _, q1, q2, q3⟩ := hB2
    exact ⟨q1, q2⟩
  have hS2 : ∀ b, S b → b < w2.heap.size := fun b h => Nat.lt_of_lt_of_le (hS b h) hw2.size
  have hj2 := h.below hS hw2
  go_wp2_with fail
  refine (jfind_any k S _ kd m s ns xs l w2 hj2 hS2 (by omega) (by omega)).mono ?_
  rintro e w3 ⟨hb3, r, hr, hres⟩
  have hx3 := (hb3.block _ hl2).trans hx2
  have hl3 : w.heap.size < w3.heap.size := (Array.getElem?_eq_some_iff.1 hx3).1
  have hw3 := hw2.trans (hb3.mono hw2.size)
  have HRS := Lib.hid (fun W' (hh : Below w.heap.size w W') => jright_any (k + 1) _ _ S W' (h.below hS hh) (fun b h => Nat.lt_of_lt_of_le (hS b h) hh.size) hB3 hZ)
  have HRF := Lib.hid (@rt_facts k kd m s ns xs)
  clear x0 x1 x2 x3 x4
  generalize rt (k + 1) (.mk kd m s ns xs) = rr at *
  have key : ∀ x y : List UInt8, ((bs x).toList == (bs y).toList) = decide (x = y) := fun x y => by
    rw [ByteArray.toList_eq, ByteArray.toList_eq]
    show (x == y) = _
    by_cases h : x = y
    · rw [decide_eq_true h, h]; simp
    · rw [decide_eq_false h]; simp [h]
  have KEY := Lib.hid key
  have HR := Lib.hid hr
  clear key hr hnl
  rcases hres with ⟨h6, i0, hi0, hri, u, rfl, hu⟩ | ⟨hc, rfl⟩
  · -- found
    obtain ⟨ya0, ya1, ya2, ya3, ya4, ya5, ya6, ya7, ya8, rfl⟩ := hu.form2
    have hy := heap_alloc_new w3 (.cells #[.int .i64 ya0, .int .i64 ya1, .string ya2, .slice ya3 ya4 ya5, .slice ya6 ya7 ya8] 41)
    have hyl : w3.heap.size < (w3.alloc (.cells #[.int .i64 ya0, .int .i64 ya1, .string ya2, .slice ya3 ya4 ya5, .slice ya6 ya7 ya8] 41)).heap.size := by simp
    have hba := (Below.refl w3.heap.size w3).alloc (Nat.le_refl _) (.cells #[.int .i64 ya0, .int .i64 ya1, .string ya2, .slice ya3 ya4 ya5, .slice ya6 ya7 ya8] 41)
    have hx4 := (hba.block _ hl3).trans hx3
    have hw4 := hw3.trans (hba.mono hw3.size)
    have hu4 := hu.below (fun b h => Nat.lt_of_lt_of_le (hS b h) hw3.size) hba
    obtain ⟨x0, x1, x2, x3, x4⟩ := tok_cells hx4
    have H6 := Lib.hid h6
    have HRI := Lib.hid hri
    clear h6 hri hu hba
    go_wp2_with fail
    generalize w3.alloc (.cells #[.int .i64 ya0, .int .i64 ya1, .string ya2, .slice ya3 ya4 ya5, .slice ya6 ya7 ya8] 41) = W4 at *
    refine (HRS.out W4 hw4).mono ?_
    rintro e w5 ⟨rfl, hb5⟩
    have hw5 := hw4.trans (hb5.mono hw4.size)
    cases rr with
    | false =>
      go_wp2_with fail
      exact bodyPost_ret (v := .bool true) (by simp [results, Try.results9, go_sem]) rfl ⟨rfl, hw5⟩
    | true =>
    have hl4 : w.heap.size < W4.heap.size := (Array.getElem?_eq_some_iff.1 hx4).1
    have hx5 := (hb5.block _ hl4).trans hx4
    have hy5 := (hb5.block _ hyl).trans hy
    have hu5 := hu4.below (fun b h => Nat.lt_of_lt_of_le (hS b h) hw4.size) hb5
    obtain ⟨hlen, hnm⟩ := (HRF.out rfl).2 H6.out
    obtain ⟨hin, hix, hfst⟩ : ∃ hin : i0 < ns.length, ns[i0] = l ∧ ∀ k (hk : k < ns.length), k < i0 → ns[k] ≠ l := by
      rcases HR.out with ⟨hm1, _⟩ | ⟨i, hi, hr2, he, hf⟩
      · have := HRI.out; omega
      · have := HRI.out
        obtain rfl : i = i0 := by omega
        exact ⟨hi, he, hf⟩
    have huniq : ∀ a (ha : a < ns.length), a ≠ i0 → ns[a] ≠ l := fun a ha hne he => by
      rcases Nat.lt_or_ge a i0 with h1 | h1
      · exact hfst a ha h1 he
      · refine (hnm a ha ha).1 ?_
        rw [he, ← hix]
        exact List.mem_take_iff_getElem.2 ⟨i0, by omega, rfl⟩
    have HUN := Lib.hid huniq
    have HIX := Lib.hid hix
    have HLEN := Lib.hid hlen
    clear hnm hfst huniq hix hlen x0 x1 x2 x3 x4
    obtain ⟨x0, x1, x2, x3, x4⟩ := tok_cells hx5
    go_wp2_with fail
    go_loopw [7, 8] (FnF ns.length i0 w5) (fun _ i _ => ns.length - (intOf i).toNat)
    case atStart => exact ⟨0, 0, Nat.zero_le _, by go_num, rfl, by show (0 : Int) = _; rw [if_neg (by omega)], Below.refl _ _⟩
    case round =>
      clear x0 x1 x2 x3 x4
      obtain ⟨a, q, ha, rfl, rfl, HQ, hbl⟩ := hrel
      have hl5 : w.heap.size < w5.heap.size := (Array.getElem?_eq_some_iff.1 hx5).1
      have hyl5 : w3.heap.size < w5.heap.size := (Array.getElem?_eq_some_iff.1 hy5).1
      obtain ⟨x0, x1, x2, x3, x4⟩ := tok_cells ((hbl.block _ hl5).trans hx5)
      obtain ⟨y0, y1, y2, y3, y4⟩ := tok_cells ((hbl.block _ hyl5).trans hy5)
      have hwr := hw5.trans (hbl.mono hw5.size)
      by_cases hlt : a < ns.length
      · have tl : decide ((a : Int) < (ns.length : Int)) = true := decide_eq_true (by omega)
        obtain ⟨e1, o1, rfl, hs1, hc1⟩ := HN.out a hlt
        have hc1 := cell_same (hwr.block e1 (hS e1 hs1)) hc1
        have hk := KEY.out ns[a] l
        by_cases hai : a = i0
        · subst hai
          rw [decide_eq_true HIX.out] at hk
          have hq0 : q = 0 := by rw [HQ.out, if_neg (by omega)]
          subst hq0
          obtain ⟨e2, o2, d0, d1, d2, d3, d4, rfl, hs2, ⟨g0, g1, g2, g3, g4⟩, hr1⟩ := HI.out a hi0
          obtain ⟨z0, z1, z2, z3, z4, z5, z6, z7, z8, he⟩ := hr1.form2
          simp at he
          obtain ⟨rfl, rfl, rfl, rfl, rfl⟩ := he
          have q2 := hwr.block e2 (hS e2 hs2)
          have g0 := cell_same q2 g0
          have g1 := cell_same q2 g1
          have g2 := cell_same q2 g2
          have g3 := cell_same q2 g3
          have g4 := cell_same q2 g4
          have hi0c : (a : Int) < (xs.length : Int) := by omega
          have hBk : Bd 1000000 xs[a] := by
            obtain ⟨_, _, _, _, _, q1, q2, q3⟩ := hB3
            exact q3 a hi0
          have hcall := jsame_any k xs[a] xs[a] _ _ S S wr.drew (hu5.upto (fun b h => Nat.lt_of_lt_of_le (hS b h) hw5.size) hbl.drew) (hr1.below hS hwr.drew) (fun b h => Nat.lt_of_lt_of_le (hS b h) hwr.size) (fun b h => Nat.lt_of_lt_of_le (hS b h) hwr.size) hBk hBk
          rw [sm_refl k _ _ hr1] at hcall
          clear q2 hr1
          go_wp2_with fail
          go_region_held (fun w' => w'.cell? ⟨w3.heap.size, 0, none⟩ = some (.int .i64 ya0) ∧ w'.cell? ⟨w3.heap.size, 1, none⟩ = some (.int .i64 ya1) ∧ w'.cell? ⟨w3.heap.size, 2, none⟩ = some (.string ya2) ∧ w'.cell? ⟨w3.heap.size, 3, none⟩ = some (.slice ya3 ya4 ya5) ∧ w'.cell? ⟨w3.heap.size, 4, none⟩ = some (.slice ya6 ya7 ya8) ∧ w'.cell? ⟨w.heap.size, 4, none⟩ = some (.slice (some ⟨e2, o2, none⟩) xs.length c2) ∧
              w'.cell? ⟨e2, o2 + a * 5, none⟩ = some (.int .i64 z0) ∧ w'.cell? ⟨e2, o2 + a * 5 + 1, none⟩ = some (.int .i64 z1) ∧ w'.cell? ⟨e2, o2 + a * 5 + 2, none⟩ = some (.string z2) ∧ w'.cell? ⟨e2, o2 + a * 5 + 3, none⟩ = some (.slice z3 z4 z5) ∧ w'.cell? ⟨e2, o2 + a * 5 + 4, none⟩ = some (.slice z6 z7 z8))
            (first
              | exact ⟨y0, y1, y2, y3, y4, x4, g0, g1, g2, g3, g4⟩
              | exact s11 (by assumption) (by assumption))
            (first
              | (go_at_call 31; (with_reducible refine hcall.mono ?_); rintro e w6 ⟨rfl, hb6⟩))
          go_wp2_with fail
          go_roundw
          case rel => exact ⟨a + 1, 1, by omega, by go_num, by go_num, by show (1 : Int) = _; rw [if_pos (by omega)], hbl.drew.trans (hb6.mono (by have := hbl.size; exact this))⟩
          case measure => simp [intOf]; omega
        · rw [decide_eq_false (HUN.out a hlt hai)] at hk
          have hq2 : q = if i0 < a + 1 then 1 else 0 := by
            rw [HQ.out]
            by_cases h1 : i0 < a
            · rw [if_pos h1, if_pos (by omega)]
            · rw [if_neg h1, if_neg (by omega)]
          have HQ2 := Lib.hid hq2
          clear hq2 hai
          go_wp2_with fail
          go_roundw
          case rel => exact ⟨a + 1, q, by omega, by go_num, rfl, HQ2, hbl⟩
          case measure => simp [intOf]; omega
      · obtain rfl : a = ns.length := by omega
        have tl : decide ((ns.length : Int) < (ns.length : Int)) = false := decide_eq_false (by omega)
        have hq1 : q = 1 := by rw [HQ.out, if_pos hin]
        subst hq1
        go_wp2_with fail
        exact bodyPost_ret (v := .bool true) (by simp [results, Try.results9, go_sem]) rfl ⟨rfl, hwr⟩
  · -- not found
    have hy := heap_alloc_new w3 (.cells #[.int .i64 0, .int .i64 0, .string ⟨#[]⟩, .slice none 0 0, .slice none 0 0] 41)
    have hyl : w3.heap.size < (w3.alloc (.cells #[.int .i64 0, .int .i64 0, .string ⟨#[]⟩, .slice none 0 0, .slice none 0 0] 41)).heap.size := by simp
    have hba := (Below.refl w3.heap.size w3).alloc (Nat.le_refl _) (.cells #[.int .i64 0, .int .i64 0, .string ⟨#[]⟩, .slice none 0 0, .slice none 0 0] 41)
    have hx4 := (hba.block _ hl3).trans hx3
    have hw4 := hw3.trans (hba.mono hw3.size)
    obtain ⟨x0, x1, x2, x3, x4⟩ := tok_cells hx4
    have HC := Lib.hid hc
    clear hba hc
    go_wp2_with fail
    generalize w3.alloc (.cells #[.int .i64 0, .int .i64 0, .string ⟨#[]⟩, .slice none 0 0, .slice none 0 0] 41) = W4 at *
    refine (HRS.out W4 hw4).mono ?_
    rintro e w5 ⟨rfl, hb5⟩
    have hw5 := hw4.trans (hb5.mono hw4.size)
    cases rr with
    | false =>
      go_wp2_with fail
      exact bodyPost_ret (v := .bool true) (by simp [results, Try.results9, go_sem]) rfl ⟨rfl, hw5⟩
    | true =>
    have hl4 : w.heap.size < W4.heap.size := (Array.getElem?_eq_some_iff.1 hx4).1
    have hx5 := (hb5.block _ hl4).trans hx4
    have hy5 := (hb5.block _ hyl).trans hy
    have hno : ∀ a (ha : a < ns.length), ns[a] ≠ l := fun a ha he => by
      obtain ⟨f1, f2⟩ := HRF.out rfl
      by_cases h6 : kd = 6
      · rcases HR.out with ⟨_, hm⟩ | ⟨i, hi, hr2, _⟩
        · exact hm (he ▸ List.getElem_mem ha)
        · have := (f2 h6).1
          exact HC.out ⟨h6, by omega, by omega⟩
      · rw [f1 h6] at ha
        simp at ha
    have HNO := Lib.hid hno
    clear hno x0 x1 x2 x3 x4
    obtain ⟨x0, x1, x2, x3, x4⟩ := tok_cells hx5
    obtain ⟨y0, y1, y2, y3, y4⟩ := tok_cells hy5
    have hcall := jsame_any 1 _ _ _ _ (fun _ => False) (fun _ => False) w5 (jv_zero _ _) (jv_zero _ _) (fun _ h => h.elim) (fun _ h => h.elim) (bd_leaf _ _ _ _) (bd_leaf _ _ _ _)
    rw [sm_refl 1 _ _ (jv_zero (fun _ => False) w5)] at hcall
    go_wp2_with fail
    go_loopw [7, 8] (FnN ns.length w5) (fun _ i _ => ns.length - (intOf i).toNat)
    case atStart => exact ⟨0, Nat.zero_le _, by go_num, by go_num, rfl⟩
    case round =>
      obtain ⟨a, ha, rfl, rfl, rfl⟩ := hrel
      by_cases hlt : a < ns.length
      · have tl : decide ((a : Int) < (ns.length : Int)) = true := decide_eq_true (by omega)
        obtain ⟨e1, o1, rfl, hs1, hc1⟩ := HN.out a hlt
        have hc1 := cell_same (hw5.block e1 (hS e1 hs1)) hc1
        have hk := KEY.out ns[a] l
        rw [decide_eq_false (HNO.out a hlt)] at hk
        go_wp2_with fail
        go_roundw
        case rel => exact ⟨a + 1, by omega, by go_num, rfl, rfl⟩
        case measure => simp [intOf]; omega
      · obtain rfl : a = ns.length := by omega
        have tl : decide ((ns.length : Int) < (ns.length : Int)) = false := decide_eq_false (by omega)
        go_wp2_with fail
        refine hcall.mono ?_
        rintro e w6 ⟨rfl, hb6⟩
        go_wp2_with fail
        exact bodyPost_ret (v := .bool true) (by simp [results, Try.results9, go_sem]) rfl ⟨rfl, hw5.trans (hb6.mono hw5.size)⟩

end Go.Proofs.Ythbpkmmnoeikoaa

/-
  A thing that came in, opened: it reads as a thing, and no row and no text of it is longer than its bulk. No condition.
-/
namespace Go.Proofs.Ythbpkmmnoeikoaa
open Go Go.RowKit
set_option linter.unusedVariables false
set_option linter.unusedSimpArgs false

theorem cells_jj : Try.prog.cellsOf 41 = 5 := by kernel_rfl
theorem cells_js : Try.prog.cellsOf 9 = 1 := by kernel_rfl
theorem cells_ji : Try.prog.cellsOf 3 = 1 := by kernel_rfl
theorem cells_jl : Try.prog.cellsOf 2 = 1 := by kernel_rfl
theorem cells_jn : Try.prog.cellsOf 38 = 1 := by kernel_rfl
theorem cells_jx : Try.prog.cellsOf 39 = 1 := by kernel_rfl

section
variable {H : Type} {enc : TypeId × Value → H} {W : World}
theorem bulk_pos (d : DataW H) : 1 ≤ Rows.uptoBulk d := by
  cases d with
  | lit l => cases l <;> simp [Rows.uptoBulk]
  | nil => simp [Rows.uptoBulk]
  | ptr d => simp [Rows.uptoBulk]
  | slice a b => simp [Rows.uptoBulk]
  | agg a => simp [Rows.uptoBulk]
  | iface t d => simp [Rows.uptoBulk]
  | map e => simp [Rows.uptoBulk]
  | held h => simp [Rows.uptoBulk]
theorem bulk_in {d : DataW H} : ∀ {l : List (DataW H)}, d ∈ l → Rows.uptoBulk d ≤ Rows.uptoBulkAll l
  | x :: l, h => by
    unfold Rows.uptoBulkAll
    rcases List.mem_cons.1 h with rfl | h
    · omega
    · have := bulk_in h; omega
theorem bulk_len : ∀ l : List (DataW H), l.length ≤ Rows.uptoBulkAll l
  | [] => by simp
  | x :: l => by
    have h1 := bulk_pos x
    have h2 := bulk_len l
    unfold Rows.uptoBulkAll
    rw [List.length_cons]; omega

theorem bd_mono {n m : Nat} {j : Js.J} (h : Bd n j) (hnm : n ≤ m) : Bd m j := by
  induction h with
  | mk kd c s ns xs h1 h2 h3 ih => exact .mk _ _ _ _ _ (by omega) (by omega) ih
theorem sz_mono {n m : Nat} {j : Js.J} (h : Sz n j) (hnm : n ≤ m) : Sz m j := by
  induction h with
  | mk kd c s ns xs h1 h2 h3 ih => exact .mk _ _ _ _ _ (by omega) (fun x hx => Nat.le_trans (h2 x hx) hnm) ih
theorem each' {len n2 B : Nat} {a : Addr} (each : ∀ i, i < len → ∃ c0 c1 c2 c3 c4 j, W.cells? 0 (a.add (i * 5)) 5 = some [c0, c1, c2, c3, c4] ∧ JVn n2 (fun b => b < W.heap.size) W (.agg #[c0, c1, c2, c3, c4]) j ∧ Bd B j ∧ Sz B j) (i : Nat) (hi : i < len) :
    ∃ j, ∃ c0 c1 c2 c3 c4, W.cells? 0 (a.add (i * 5)) 5 = some [c0, c1, c2, c3, c4] ∧ JVn n2 (fun b => b < W.heap.size) W (.agg #[c0, c1, c2, c3, c4]) j ∧ Bd B j ∧ Sz B j := by
  obtain ⟨c0, c1, c2, c3, c4, j, h⟩ := each i hi
  exact ⟨j, c0, c1, c2, c3, c4, h⟩
theorem block_lt {b o : Nat} {v : Value} (h : W.cell? ⟨b, o, none⟩ = some v) : b < W.heap.size := by
  rcases Nat.lt_or_ge b W.heap.size with h1 | h1
  · exact h1
  · exfalso
    unfold World.cell? at h
    rw [Array.getElem?_eq_none h1] at h
    simp at h

theorem open_names {fuel : Nat} {cs : List Value} {x : DataW H × List MemPlace} (h : DataW.trod enc Try.prog W 0 (fun _ => true) true fuel 38 cs = some x) :
    ∃ v ns, cs = [v] ∧ NamesV (fun b => b < W.heap.size) W v ns ∧ ns.length ≤ Rows.uptoBulk x.1 ∧ ∀ s ∈ ns, s.length ≤ Rows.uptoBulk x.1 := by
  rcases Go.ChangeShapes.open_strings Try.underlying38 Try.underlying9 cells_js h with ⟨hcs, hx⟩ | ⟨a, len, cap, ss, hcs, _, hl, hm, hz, hx, hcell, hsz⟩
  · exact ⟨_, [], hcs, ⟨none, 0, rfl, fun i h => by simp at h⟩, by simp, by simp⟩
  · simp only [if_true] at hz
    have hlen : ((ss.take len).map (fun s => s.data.toList)).length = len := by rw [List.length_map, List.length_take]; omega
    have hb1 : Rows.uptoBulkAll (Go.ChangeShapes.strs (H := H) (ss.take len)) + 1 ≤ Rows.uptoBulk x.1 := by
      subst hx
      unfold Rows.uptoBulk
      omega
    have hb2 := bulk_len (Go.ChangeShapes.strs (H := H) (ss.take len))
    simp only [Go.ChangeShapes.strs, List.length_map, List.length_take] at hb2
    refine ⟨_, (ss.take len).map (fun s => s.data.toList), hcs, ⟨some a, cap, by rw [hlen], fun j hj => ?_⟩, by rw [hlen]; simp only [Go.ChangeShapes.strs] at hb1; omega, ?_⟩
    · rw [hlen] at hj
      have hc := hcell 0 (by omega)
      obtain ⟨b, off, spot⟩ := a
      have hspot : spot = none := by simpa [Addr.add] using World.cell?_spot hc
      subst hspot
      have hcj := hcell j (by omega)
      rw [Go.WideShapes.add_plain] at hcj
      refine ⟨b, off, rfl, block_lt hcj, ?_⟩
      rw [hcj]
      simp only [List.getElem_map, List.getElem_take]
      rw [List.getD_eq_getElem?_getD, List.getElem?_eq_getElem (by omega)]
      rfl
    · intro f hf
      obtain ⟨s, hs, rfl⟩ := List.mem_map.1 hf
      have h3 := bulk_in (d := DataW.lit (H := H) (.string s.data.toList)) (l := Go.ChangeShapes.strs (H := H) (ss.take len)) (by simp only [Go.ChangeShapes.strs]; exact List.mem_map.2 ⟨s, hs, rfl⟩)
      have h4 : Rows.uptoBulk (DataW.lit (H := H) (.string s.data.toList)) = s.data.toList.length + 1 := by simp [Rows.uptoBulk]
      omega

set_option maxRecDepth 100000 in
/-- a thing that came in -/
theorem open_thing : ∀ (fuel : Nat) (cs : List Value) (x : DataW H × List MemPlace), DataW.trod enc Try.prog W 0 (fun _ => true) true fuel 41 cs = some x →
    ∃ c0 c1 c2 c3 c4 j, cs = [c0, c1, c2, c3, c4] ∧ JVn fuel (fun b => b < W.heap.size) W (.agg #[c0, c1, c2, c3, c4]) j ∧ Bd (Rows.uptoBulk x.1) j ∧ Sz (Rows.uptoBulk x.1) j := by
  intro fuel
  induction fuel using Nat.strongRecOn with
  | _ fuel ih =>
    intro cs x h
    obtain ⟨ys, n, rfl, rfl, hl, hlen, hf⟩ := DataW.trod_struct Try.underlying41 h
    rw [cells_jj] at hl
    obtain ⟨c0, c1, c2, c3, c4, rfl⟩ : ∃ c0 c1 c2 c3 c4, cs = [c0, c1, c2, c3, c4] := by
      match cs, hl with
      | [c0, c1, c2, c3, c4], _ => exact ⟨c0, c1, c2, c3, c4, rfl⟩
    obtain ⟨y0, y1, y2, y3, y4, rfl⟩ : ∃ y0 y1 y2 y3 y4, ys = [y0, y1, y2, y3, y4] := by
      match ys, hlen with
      | [y0, y1, y2, y3, y4], _ => exact ⟨y0, y1, y2, y3, y4, rfl⟩
    have f0 : DataW.trod enc Try.prog W 0 (fun _ => true) true n 3 (([c0, c1, c2, c3, c4].drop 0).take (Try.prog.cellsOf 3)) = some y0 := hf 0 _ rfl
    have f1 : DataW.trod enc Try.prog W 0 (fun _ => true) true n 2 (([c0, c1, c2, c3, c4].drop 1).take (Try.prog.cellsOf 2)) = some y1 := hf 1 _ rfl
    have f2 : DataW.trod enc Try.prog W 0 (fun _ => true) true n 9 (([c0, c1, c2, c3, c4].drop 2).take (Try.prog.cellsOf 9)) = some y2 := hf 2 _ rfl
    have f3 : DataW.trod enc Try.prog W 0 (fun _ => true) true n 38 (([c0, c1, c2, c3, c4].drop 3).take (Try.prog.cellsOf 38)) = some y3 := hf 3 _ rfl
    have f4 : DataW.trod enc Try.prog W 0 (fun _ => true) true n 39 (([c0, c1, c2, c3, c4].drop 4).take (Try.prog.cellsOf 39)) = some y4 := hf 4 _ rfl
    simp only [cells_ji, cells_jl, cells_js, cells_jn, cells_jx, List.drop_zero, List.drop_succ_cons, List.take_succ_cons, List.take_zero] at f0 f1 f2 f3 f4
    obtain ⟨kd, e0, g0, _⟩ := DataW.trod_int Try.underlying3 f0
    obtain ⟨m, e1, g1, _⟩ := DataW.trod_int Try.underlying2 f1
    obtain ⟨s, e2, g2, _⟩ := DataW.trod_string Try.underlying9 f2
    obtain ⟨v3, ns, e3, hn, hn1, hn2⟩ := open_names f3
    simp only [List.cons.injEq, and_true] at e0 e1 e2 e3
    subst e0 e1 e2 e3
    have hbk : Rows.uptoBulk (DataW.agg ([y0, y1, y2, y3, y4].map (·.1))) = Rows.uptoBulk y0.1 + (Rows.uptoBulk y1.1 + (Rows.uptoBulk y2.1 + (Rows.uptoBulk y3.1 + (Rows.uptoBulk y4.1 + 0)))) + 1 := by
      simp [Rows.uptoBulk, Rows.uptoBulkAll]
    have hs2 : s.data.toList.length + 1 = Rows.uptoBulk y2.1 := by rw [g2]; simp [Rows.uptoBulk]
    dsimp only
    rw [hbk]
    rcases DataW.trod_slice Try.underlying39 f4 with ⟨e4, g4⟩ | ⟨a, len, cap, elems, rest, n2, rfl, e4, g4, _, hlc, hm, hel, hk, _, _⟩
    · simp only [List.cons.injEq, and_true] at e4
      subst e4
      refine ⟨_, _, _, _, _, .mk kd m s.data.toList ns [], rfl, ⟨_, _, rfl, hn, ⟨none, 0, rfl, fun i h => by simp at h⟩⟩, .mk _ _ _ _ _ (by omega) (Nat.zero_le _) (fun i h => by simp at h), .mk _ _ _ _ _ (by omega) (fun z hz => by have := hn2 z hz; omega) (fun i h => by simp at h)⟩
    · simp only [List.cons.injEq, and_true] at e4
      subst e4
      have hb4 : Rows.uptoBulkAll (elems.map (·.1)) + 1 ≤ Rows.uptoBulk y4.1 := by rw [g4]; unfold Rows.uptoBulk; omega
      have hb5 := bulk_len (elems.map (·.1))
      rw [List.length_map, hel] at hb5
      have each : ∀ i, i < len → ∃ c0 c1 c2 c3 c4 j, W.cells? 0 (a.add (i * 5)) 5 = some [c0, c1, c2, c3, c4] ∧ JVn n2 (fun b => b < W.heap.size) W (.agg #[c0, c1, c2, c3, c4]) j ∧ Bd (Rows.uptoBulk y4.1) j ∧ Sz (Rows.uptoBulk y4.1) j := fun i hi => by
        have h1 := hk i hi
        rw [cells_jj, List.getElem?_eq_getElem (by omega)] at h1
        obtain ⟨cs', h2, h3⟩ := Option.bind_eq_some_iff.1 h1
        obtain ⟨d0, d1, d2, d3, d4, j, rfl, hj, hB, hZ⟩ := ih n2 (by omega) cs' _ h3
        have hle := bulk_in (l := elems.map (·.1)) (List.mem_map.2 ⟨_, List.getElem_mem (show i < elems.length by omega), rfl⟩)
        exact ⟨d0, d1, d2, d3, d4, j, h2, hj, bd_mono hB (by omega), sz_mono hZ (by omega)⟩
      obtain ⟨J, hJ⟩ : ∃ J : Nat → Js.J, ∀ i, i < len → ∃ c0 c1 c2 c3 c4, W.cells? 0 (a.add (i * 5)) 5 = some [c0, c1, c2, c3, c4] ∧ JVn n2 (fun b => b < W.heap.size) W (.agg #[c0, c1, c2, c3, c4]) (J i) ∧ Bd (Rows.uptoBulk y4.1) (J i) ∧ Sz (Rows.uptoBulk y4.1) (J i) := by
        refine ⟨fun i => if h : i < len then Classical.choose (each' each i h) else .mk 0 0 [] [] [], fun i hi => ?_⟩
        dsimp only
        rw [dif_pos hi]
        exact Classical.choose_spec (each' each i hi)
      have hxl : ((List.range len).map J).length = len := by simp
      refine ⟨_, _, _, _, _, .mk kd m s.data.toList ns ((List.range len).map J), rfl, ⟨_, _, rfl, hn, ⟨some a, cap, by rw [hxl], fun i hi => ?_⟩⟩, .mk _ _ _ _ _ (by omega) (by rw [hxl]; omega) (fun i hi => ?_), .mk _ _ _ _ _ (by omega) (fun z hz => by have := hn2 z hz; omega) (fun i hi => ?_)⟩
      · rw [hxl] at hi
        obtain ⟨d0, d1, d2, d3, d4, h2, hj, _, _⟩ := hJ i hi
        obtain ⟨_, _, hc⟩ := World.cells?_some h2
        have k0 := hc 0 (by omega)
        have k1 := hc 1 (by omega)
        have k2 := hc 2 (by omega)
        have k3 := hc 3 (by omega)
        have k4 := hc 4 (by omega)
        obtain ⟨b, off, spot⟩ := a
        have hspot : spot = none := by
          obtain ⟨_, _, _, _, _, h20, _⟩ := hJ 0 (by omega)
          have k00 := (World.cells?_some h20).2.2 0 (by omega)
          simpa [Addr.add] using World.cell?_spot k00
        subst hspot
        simp only [Go.WideShapes.add_plain] at k0 k1 k2 k3 k4
        refine ⟨b, off, d0, d1, d2, d3, d4, rfl, block_lt k0, ⟨k0, k1, k2, k3, k4⟩, ?_⟩
        simp only [List.getElem_map, List.getElem_range]
        exact hj.le (by omega)
      · simp only [List.getElem_map, List.getElem_range]
        rw [hxl] at hi
        obtain ⟨_, _, _, _, _, _, _, hB, _⟩ := hJ i hi
        exact bd_mono hB (by omega)
      · simp only [List.getElem_map, List.getElem_range]
        rw [hxl] at hi
        obtain ⟨_, _, _, _, _, _, _, _, hZ⟩ := hJ i hi
        exact sz_mono hZ (by omega)
end

end Go.Proofs.Ythbpkmmnoeikoaa
