/-
  The reference's Get: the code at a place. Condition: lists of at most 2^32 bytes.
-/
import Derived.Test.YthbpkmmnoeikoaaJm08
namespace Go.Proofs.Ythbpkmmnoeikoaa
open Go Go.RowKit Go.Deep
set_option linter.unusedVariables false
set_option linter.unusedSimpArgs false

theorem putI_nat (c : Nat) : putI (c : Int) = Uf.put c := by
  unfold putI
  rw [codeI_nat]
  cases h : Uf.code c with
  | true => rfl
  | false => unfold Uf.put; rw [h]; rfl

def RgR (b0 : UInt8) (r : List UInt8) (g : Option (Nat × Nat)) (w0 : World) (c n x : Value) (w : World) : Prop :=
  ∃ m : Nat, m ≤ 4 ∧ m ≤ r.length + 1 ∧ n = .int .i64 ((m : Int) + 1) ∧ ((m = 0 ∧ c = .int .i64 0) ∨ (1 ≤ m ∧ c = .int .i64 (Uf.acc (Uf.head b0) (r.take (m - 1)) : Int))) ∧ Below w0.heap.size w0 w ∧ Hid (g = Uf.rget (b0 :: r) (4 - m) (m + 1))

theorem head_lt (b : UInt8) : Uf.head b < 192 := by
  have := Uf.head_cases b; have := b.toNat_lt; omega
theorem acc_bound2 (c : Nat) (hc : c < 192) (r : List UInt8) (m : Nat) (hm : m ≤ 3) : Uf.acc c (r.take m) < 50331648 := by
  have h := Uf.acc_lt c (r.take m)
  have h1 : (r.take m).length ≤ 3 := by rw [List.length_take]; omega
  have h2 : 64 ^ (r.take m).length ≤ 64 ^ 3 := Nat.pow_le_pow_right (by decide) h1
  have h3 : (c + 1) * 64 ^ (r.take m).length ≤ 192 * 64 ^ 3 := Nat.mul_le_mul (by omega) h2
  omega

set_option maxRecDepth 100000 in
set_option maxHeartbeats 8000000 in
theorem rget_any (v : Value) (xs : List UInt8) (at1 : Nat) (w : World) (hv : BytesV w v xs) (hat : at1 ≤ xs.length) (hlen : xs.length ≤ 4294967296) :
    Calls Try.prog 96 #[v, .int .i64 (at1 : Int)] w fun e w' => e = .returned (getV (Uf.get (xs.drop at1))) ∧ Below w.heap.size w w' := by
  obtain ⟨p, cap, rfl, hcap, hcapm, hc⟩ := hv
  by_cases hlt : at1 < xs.length
  · obtain ⟨b, o, rfl, hc0⟩ := hc at1 hlt
    have hd : xs.drop at1 = xs[at1] :: xs.drop (at1 + 1) := (List.getElem_cons_drop hlt).symm
    have hg : Uf.get (xs.drop at1) = Uf.rget (xs[at1] :: xs.drop (at1 + 1)) 4 1 := by rw [← Uf.rget_get, hd]
    have hrl : (xs.drop (at1 + 1)).length = xs.length - (at1 + 1) := List.length_drop
    have hcc : ∀ W, Below w.heap.size w W → ∀ (m : Nat) (hm : m < (xs[at1] :: xs.drop (at1 + 1)).length), W.cell? ⟨b, o + (at1 + m), none⟩ = some (.int .u8 (((xs[at1] :: xs.drop (at1 + 1))[m]).toNat : Int)) := fun W hW m hm => by
      rw [List.length_cons, hrl] at hm
      obtain ⟨b', o', e, q⟩ := hc (at1 + m) (by omega)
      cases e
      have e2 : (xs[at1] :: xs.drop (at1 + 1))[m]'(by rw [List.length_cons, hrl]; exact hm) = xs[at1 + m]'(by omega) := by
        simp only [← hd, List.getElem_drop]
      rw [e2, ← cell_below hW q]
    generalize Uf.get (xs.drop at1) = g at *
    generalize xs.drop (at1 + 1) = r at *
    generalize xs[at1] = x0 at *
    have HCC := Lib.hid hcc
    have hsl : ∀ W, Below w.heap.size w W → ∀ n, n ≤ r.length + 1 → BytesV W (.slice (some ⟨b, o + at1, none⟩) n (cap - at1)) ((x0 :: r).take n) := fun W hW n hn => by
      have hl2 : ((x0 :: r).take n).length = n := by rw [List.length_take, List.length_cons]; omega
      refine ⟨_, _, by rw [hl2], by rw [hl2]; omega, by omega, fun j hj => ⟨b, o + at1, rfl, ?_⟩⟩
      rw [hl2] at hj
      rw [Nat.add_assoc, hcc W hW j (by rw [List.length_cons]; omega), List.getElem_take]
    have HSL := Lib.hid hsl
    clear hcc hsl hc hc0
    have hcne : ¬ cap = at1 := by omega
    have hg' := Lib.hid hg
    clear hd hg
    have tz1 : decide ((at1 : Int) < 0) = false := decide_eq_false (by omega)
    have tz2 : decide ((at1 : Int) ≥ (xs.length : Int)) = false := decide_eq_false (by omega)
    have tz3 : decide (xs.length ≤ at1) = false := decide_eq_false (by omega)
    have tz4 : ¬ xs.length ≤ at1 := by omega
    go_enter Try.func96, Try.ntmps96
    go_wp2
    go_loopw [7, 8, 9] (RgR x0 r g w) (fun _ n _ _ => 5 - (intOf n).toNat)
    case atStart => exact ⟨0, by omega, by omega, by go_num, .inl ⟨rfl, by go_num⟩, Below.refl _ _, hg'⟩
    case round =>
      obtain ⟨m, hm4, hmr, rfl, hcv, hbl, HG⟩ := hrel
      by_cases hm : m < 4 ∧ m + 1 ≤ r.length + 1
      · have hu : Uf.rget (x0 :: r) (4 - m) (m + 1) = if Uf.put (Uf.acc (Uf.head x0) (r.take m)) = (x0 :: r).take (m + 1) then some (Uf.acc (Uf.head x0) (r.take m), m + 1) else Uf.rget (x0 :: r) (4 - (m + 1)) (m + 1 + 1) := by
          rw [show 4 - m = (4 - (m + 1)) + 1 by omega]
          conv => lhs; unfold Uf.rget
          dsimp only
          rw [if_pos ⟨by omega, hm.2⟩]; rfl
        have hgu := HG.out.trans hu
        have hcm := HCC.out wr hbl m (by rw [List.length_cons]; omega)
        have i1 : (0 : Int) ≤ (at1 : Int) + ((m : Int) + 1) - 1 := by omega
        have i2 : (at1 : Int) + ((m : Int) + 1) - 1 < (xs.length : Int) := by omega
        have i3 : (0 : Int) ≤ (at1 : Int) := by omega
        have i4 : (at1 : Int) ≤ (at1 : Int) + ((m : Int) + 1) := by omega
        have i5 : (at1 : Int) + ((m : Int) + 1) ≤ (cap : Int) := by omega
        have i6 : IntKind.i64.wrap ((at1 : Int) + ((m : Int) + 1)) = (at1 : Int) + ((m : Int) + 1) := IntWalk.i64_in _ (by omega)
        have i7 : ((at1 : Int) + ((m : Int) + 1)).toNat = at1 + (m + 1) := by omega
        have i8 : at1 + (m + 1) - at1 = m + 1 := by omega
        have i9 : (0 : Int) ≤ (at1 : Int) + ((m : Int) + 1) := by omega
        have i10 : at1 ≤ at1 + (m + 1) := by omega
        have hidx : ((at1 : Int) + ((m : Int) + 1) - 1).toNat = at1 + m := by omega
        have t1 : decide ((m : Int) + 1 ≤ 4) = true := decide_eq_true (by omega)
        have t2 : decide ((m : Int) + 1 ≤ (xs.length : Int) - (at1 : Int)) = true := decide_eq_true (by omega)
        have hab := acc_bound2 (Uf.head x0) (head_lt x0) r m (by omega)
        have hSL := fun W hW => HSL.out W hW (m + 1) hm.2
        have hlt2 : ((x0 :: r).take (m + 1)).length ≤ 4 := by rw [List.length_take]; omega
        have hpl : (Uf.put (Uf.acc (Uf.head x0) (r.take m))).length ≤ 4 := by
          rw [Uf.put_len]
          unfold Uf.long
          split
          · omega
          · split
            · omega
            · split
              · omega
              · split <;> omega
        have hPB : ∀ W, Calls Try.prog 63 #[.int .i64 (Uf.acc (Uf.head x0) (r.take m) : Int)] W fun e w' => ∃ v, e = .returned v ∧ BytesV w' v (Uf.put (Uf.acc (Uf.head x0) (r.take m))) ∧ Below W.heap.size W w' := fun W => by
          have := rput_any (Uf.acc (Uf.head x0) (r.take m) : Int) W
          rw [putI_nat] at this
          exact this
        generalize Uf.put (Uf.acc (Uf.head x0) (r.take m)) = P at *
        generalize (x0 :: r).take (m + 1) = T at *
        have HGU := Lib.hid hgu
        have HSL2 := Lib.hid hSL
        have HPB := Lib.hid hPB
        clear HG hgu hu HCC HSL hSL hPB
        by_cases hm0 : m = 0
        · subst hm0
          obtain rfl : u7 = .int .i64 0 := hcv.elim (fun h => h.2) (fun h => absurd h.1 (by omega))
          have hce : ((Uf.acc (Uf.head x0) (r.take 0) : Nat) : Int) = (Uf.head x0 : Int) := rfl
          rw [hce] at HPB
          clear hce
          have hcm0 : wr.cell? ⟨b, o + at1, none⟩ = some (.int .u8 (x0.toNat : Int)) := hcm
          clear hcm hcv i1 i2 i4 i5 i6 i7 i8 i9 i10 hidx t1 t2
          have j5 : (at1 : Int) + 1 ≤ (cap : Int) := by omega
          have j6 : IntKind.i64.wrap ((at1 : Int) + 1) = (at1 : Int) + 1 := IntWalk.i64_in _ (by omega)
          have j7 : ((at1 : Int) + 1).toNat = at1 + 1 := by omega
          have j8 : at1 + 1 - at1 = 1 := by omega
          have j9 : (0 : Int) ≤ (at1 : Int) + 1 := by omega
          have j10 : at1 ≤ at1 + 1 := by omega
          have t2 : decide ((1 : Int) ≤ (xs.length : Int) - (at1 : Int)) = true := decide_eq_true (by omega)
          have hx2 := x0.toNat_lt
          have hm1 : (((0 : Nat) : Int) + 1 == 1) = true := rfl
          rcases Uf.head_cases x0 with ⟨c1, c2⟩ | ⟨c0, c1, c2⟩ | ⟨c0, c1, c2⟩ | ⟨c1, c2⟩
          · have hx : (Uf.head x0 : Int) = (x0.toNat : Int) - 240 := by omega
            rw [hx] at HPB
            have hce := hx
            go_wp2
            go_region_with (first
              | (go_at_call 63; refine (HPB.out _).mono ?_; rintro e w1 ⟨v1, rfl, hv1, hb1⟩)
              | (go_at_call 62; refine (bytes_any _ _ _ _ _ hv1 (HSL2.out _ (hbl.drew.trans (hb1.mono hbl.size))) (by omega) (by omega)).mono ?_; rintro e w2 ⟨rfl, hb2⟩))
            have hb3 := (hbl.drew.trans (hb1.mono hbl.size)).trans (hb2.mono (Nat.le_trans hbl.size hb1.size))
            by_cases hpe : P = T
            · obtain rfl : g = some (Uf.head x0, 1) := HGU.out.trans (if_pos hpe)
              have HCE := Lib.hid hce
              clear HGU
              go_wp2
              exact bodyPost_ret (v := getV (some (Uf.head x0, 1))) (by simp [results, Try.results96, go_sem, getV, HCE.out]) rfl ⟨rfl, hb3⟩
            · have td : decide (P = T) = false := decide_eq_false hpe
              have HG2 := Lib.hid (HGU.out.trans (if_neg hpe))
              have HCE := Lib.hid hce
              clear HGU
              go_wp2
              go_roundw
              case rel => exact ⟨0 + 1, by omega, by omega, by go_num, .inr ⟨by omega, by rw [← HCE.out]; rfl⟩, hb3, HG2⟩
              case measure => simp [intOf] <;> omega
          · have hx : (Uf.head x0 : Int) = (x0.toNat : Int) - 224 := by omega
            rw [hx] at HPB
            have hce := hx
            go_wp2
            go_region_with (first
              | (go_at_call 63; refine (HPB.out _).mono ?_; rintro e w1 ⟨v1, rfl, hv1, hb1⟩)
              | (go_at_call 62; refine (bytes_any _ _ _ _ _ hv1 (HSL2.out _ (hbl.drew.trans (hb1.mono hbl.size))) (by omega) (by omega)).mono ?_; rintro e w2 ⟨rfl, hb2⟩))
            have hb3 := (hbl.drew.trans (hb1.mono hbl.size)).trans (hb2.mono (Nat.le_trans hbl.size hb1.size))
            by_cases hpe : P = T
            · obtain rfl : g = some (Uf.head x0, 1) := HGU.out.trans (if_pos hpe)
              have HCE := Lib.hid hce
              clear HGU
              go_wp2
              exact bodyPost_ret (v := getV (some (Uf.head x0, 1))) (by simp [results, Try.results96, go_sem, getV, HCE.out]) rfl ⟨rfl, hb3⟩
            · have td : decide (P = T) = false := decide_eq_false hpe
              have HG2 := Lib.hid (HGU.out.trans (if_neg hpe))
              have HCE := Lib.hid hce
              clear HGU
              go_wp2
              go_roundw
              case rel => exact ⟨0 + 1, by omega, by omega, by go_num, .inr ⟨by omega, by rw [← HCE.out]; rfl⟩, hb3, HG2⟩
              case measure => simp [intOf] <;> omega
          · have hx : (Uf.head x0 : Int) = (x0.toNat : Int) - 192 := by omega
            rw [hx] at HPB
            have hce := hx
            go_wp2
            go_region_with (first
              | (go_at_call 63; refine (HPB.out _).mono ?_; rintro e w1 ⟨v1, rfl, hv1, hb1⟩)
              | (go_at_call 62; refine (bytes_any _ _ _ _ _ hv1 (HSL2.out _ (hbl.drew.trans (hb1.mono hbl.size))) (by omega) (by omega)).mono ?_; rintro e w2 ⟨rfl, hb2⟩))
            have hb3 := (hbl.drew.trans (hb1.mono hbl.size)).trans (hb2.mono (Nat.le_trans hbl.size hb1.size))
            by_cases hpe : P = T
            · obtain rfl : g = some (Uf.head x0, 1) := HGU.out.trans (if_pos hpe)
              have HCE := Lib.hid hce
              clear HGU
              go_wp2
              exact bodyPost_ret (v := getV (some (Uf.head x0, 1))) (by simp [results, Try.results96, go_sem, getV, HCE.out]) rfl ⟨rfl, hb3⟩
            · have td : decide (P = T) = false := decide_eq_false hpe
              have HG2 := Lib.hid (HGU.out.trans (if_neg hpe))
              have HCE := Lib.hid hce
              clear HGU
              go_wp2
              go_roundw
              case rel => exact ⟨0 + 1, by omega, by omega, by go_num, .inr ⟨by omega, by rw [← HCE.out]; rfl⟩, hb3, HG2⟩
              case measure => simp [intOf] <;> omega
          · have hx : (Uf.head x0 : Int) = (x0.toNat : Int) := by omega
            rw [hx] at HPB
            have hce := hx
            go_wp2
            go_region_with (first
              | (go_at_call 63; refine (HPB.out _).mono ?_; rintro e w1 ⟨v1, rfl, hv1, hb1⟩)
              | (go_at_call 62; refine (bytes_any _ _ _ _ _ hv1 (HSL2.out _ (hbl.drew.trans (hb1.mono hbl.size))) (by omega) (by omega)).mono ?_; rintro e w2 ⟨rfl, hb2⟩))
            have hb3 := (hbl.drew.trans (hb1.mono hbl.size)).trans (hb2.mono (Nat.le_trans hbl.size hb1.size))
            by_cases hpe : P = T
            · obtain rfl : g = some (Uf.head x0, 1) := HGU.out.trans (if_pos hpe)
              have HCE := Lib.hid hce
              clear HGU
              go_wp2
              exact bodyPost_ret (v := getV (some (Uf.head x0, 1))) (by simp [results, Try.results96, go_sem, getV, HCE.out]) rfl ⟨rfl, hb3⟩
            · have td : decide (P = T) = false := decide_eq_false hpe
              have HG2 := Lib.hid (HGU.out.trans (if_neg hpe))
              have HCE := Lib.hid hce
              clear HGU
              go_wp2
              go_roundw
              case rel => exact ⟨0 + 1, by omega, by omega, by go_num, .inr ⟨by omega, by rw [← HCE.out]; rfl⟩, hb3, HG2⟩
              case measure => simp [intOf] <;> omega
        · obtain rfl : u7 = .int .i64 (Uf.acc (Uf.head x0) (r.take (m - 1)) : Int) := hcv.elim (fun h => absurd h.1 hm0) (fun h => h.2)
          have hmr2 : m - 1 < r.length := by omega
          have hx : (x0 :: r)[m]'(by rw [List.length_cons]; omega) = r[m - 1] := by
            cases m with
            | zero => exact absurd rfl hm0
            | succ k => rfl
          rw [hx] at hcm
          have hct := acc_take (Uf.head x0) r (m - 1) hmr2
          rw [show m - 1 + 1 = m by omega] at hct
          have hce : ((Uf.acc (Uf.head x0) (r.take m) : Nat) : Int) = (Uf.acc (Uf.head x0) (r.take (m - 1)) : Int) * 64 + (r[m - 1].toNat : Int) % 64 := by rw [hct]; simp
          have hab2 := acc_bound2 (Uf.head x0) (head_lt x0) r (m - 1) (by omega)
          rw [hce] at HPB
          clear hct
          have q5 : (r[m - 1].toNat : Int).tmod 64 = (r[m - 1].toNat : Int) % 64 := Int.tmod_eq_emod_of_nonneg (by omega)
          have hm1 : ((m : Int) + 1 == 1) = false := beq_eq_false_iff_ne.2 (by omega)
          have hx2 := r[m - 1].toNat_lt
          clear hcv hx
          go_wp2
          go_region_with (first
            | (go_at_call 63; refine (HPB.out _).mono ?_; rintro e w1 ⟨v1, rfl, hv1, hb1⟩)
            | (go_at_call 62; refine (bytes_any _ _ _ _ _ hv1 (HSL2.out _ (hbl.drew.trans (hb1.mono hbl.size))) (by omega) (by omega)).mono ?_; rintro e w2 ⟨rfl, hb2⟩))
          have hb3 := (hbl.drew.trans (hb1.mono hbl.size)).trans (hb2.mono (Nat.le_trans hbl.size hb1.size))
          by_cases hpe : P = T
          · obtain rfl : g = some (Uf.acc (Uf.head x0) (r.take m), m + 1) := HGU.out.trans (if_pos hpe)
            have HCE := Lib.hid hce
            clear HGU
            go_wp2
            exact bodyPost_ret (v := getV (some (Uf.acc (Uf.head x0) (r.take m), m + 1))) (by simp [results, Try.results96, go_sem, getV, HCE.out]) rfl ⟨rfl, hb3⟩
          · have td : decide (P = T) = false := decide_eq_false hpe
            have HG2 := Lib.hid (HGU.out.trans (if_neg hpe))
            have HCE := Lib.hid hce
            clear HGU
            go_wp2
            go_roundw
            case rel => exact ⟨m + 1, by omega, by omega, by go_num, .inr ⟨by omega, by rw [show m + 1 - 1 = m by omega, HCE.out]⟩, hb3, HG2⟩
            case measure => simp [intOf] <;> omega
      · have hgn : g = none := by
          rw [HG.out]
          cases h4 : 4 - m with
          | zero => rfl
          | succ f =>
            unfold Uf.rget
            dsimp only
            rw [if_neg (by omega)]
        subst hgn
        clear HG hg' HCC HSL hcv
        by_cases h4 : m < 4
        · have t1 : decide ((m : Int) + 1 ≤ 4) = true := decide_eq_true (by omega)
          have t2 : decide ((m : Int) + 1 ≤ (xs.length : Int) - (at1 : Int)) = false := decide_eq_false (by omega)
          go_wp2
          exact bodyPost_ret (v := getV none) (by simp [results, Try.results96, go_sem, getV]) rfl ⟨rfl, hbl⟩
        · have t1 : decide ((m : Int) + 1 ≤ 4) = false := decide_eq_false (by omega)
          go_wp2
          exact bodyPost_ret (v := getV none) (by simp [results, Try.results96, go_sem, getV]) rfl ⟨rfl, hbl⟩
  · have hd : xs.drop at1 = [] := List.drop_eq_nil_of_le (by omega)
    rw [hd]
    go_enter Try.func96, Try.ntmps96
    go_wp2_with fail
    exact bodyPost_ret (v := getV none) (by simp [results, Try.results96, go_sem, getV]) rfl ⟨rfl, Below.refl _ _⟩

end Go.Proofs.Ythbpkmmnoeikoaa
