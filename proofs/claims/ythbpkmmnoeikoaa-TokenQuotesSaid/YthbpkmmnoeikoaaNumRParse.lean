/-
  The reference's Parse: the number of a text, or the error. Condition: the text is no longer than 2^62 bytes.
-/
import Derived.Test.YthbpkmmnoeikoaaNumParse
namespace Go.Proofs.Ythbpkmmnoeikoaa
open Go.RowKit

theorem bad_iff (s : ByteArray) (a : Nat) (h : Nm.body s.data.toList = s.data.toList.drop a) (ha : a < s.size) (hn : a = if Nm.neg s.data.toList then 1 else 0) :
    Nm.bad s.data.toList = (!decide (Nm.run (s.data.toList.drop a) = s.size - a) || (decide (s[a].toNat = 48) && decide (1 < s.size))) := by
  unfold Nm.bad
  rw [h]
  have hd := drop_cons s a ha
  have e1 : (s.data.toList.drop a).isEmpty = false := by rw [hd]; rfl
  have hr := run_all (s.data.toList.drop a)
  rw [List.length_drop, len_data] at hr
  have e2 : (s.data.toList.drop a).all Nm.dig = decide (Nm.run (s.data.toList.drop a) = s.size - a) := by
    by_cases hc : (s.data.toList.drop a).all Nm.dig = true
    · rw [hc, decide_eq_true (hr.2 hc)]
    · rw [decide_eq_false (fun e => hc (hr.1 e))]; simpa using hc
  have e3 : ((s.data.toList.drop a).head? == some 48) = decide (s[a].toNat = 48) := by
    rw [hd, Bool.eq_iff_iff]
    simp only [List.head?_cons, beq_iff_eq, Option.some.injEq, decide_eq_true_eq]
    exact ⟨fun e => by rw [e]; rfl, fun e => UInt8.toNat_inj.1 e⟩
  rw [e1, e2, e3, List.length_drop, len_data, Bool.false_or]
  by_cases hg : Nm.neg s.data.toList = true
  · rw [hg] at hn ⊢
    simp only [if_true] at hn
    have : decide (1 < s.size) = true := by simp; omega
    rw [this, Bool.or_true]
  · have hg' : Nm.neg s.data.toList = false := by simpa using hg
    rw [hg'] at hn ⊢
    simp only [Bool.false_eq_true, if_false] at hn
    subst hn
    rw [Bool.or_false]; rfl

theorem body_drop (s : ByteArray) : Nm.body s.data.toList = s.data.toList.drop (if Nm.neg s.data.toList then 1 else 0) := by
  unfold Nm.body
  by_cases h : Nm.neg s.data.toList = true
  · rw [h]; simp
  · have h' : Nm.neg s.data.toList = false := by simpa using h
    rw [h']; simp

theorem dtake_snoc (s : ByteArray) (a k : Nat) (ha : a ≤ k) (h : k < s.size) : (s.data.toList.drop a).take (k + 1 - a) = (s.data.toList.drop a).take (k - a) ++ [s[k]] := by
  rw [show k + 1 - a = (k - a) + 1 from by omega, List.take_succ_eq_append_getElem (by rw [List.length_drop, len_data]; omega), List.getElem_drop]
  congr 2
  have : a + (k - a) = k := by omega
  simp only [this]; rfl

theorem all_from {s : ByteArray} {a : Nat} (h : (s.data.toList.drop a).all Nm.dig = true) (k : Nat) (ha : a ≤ k) (hk : k < s.size) : 48 ≤ s[k].toNat ∧ s[k].toNat ≤ 57 := by
  have hm : s.data.toList[k]'(by rw [len_data]; exact hk) ∈ s.data.toList.drop a := by
    rw [List.mem_drop_iff_getElem]
    exact ⟨k - a, by rw [len_data]; omega, by congr 1; omega⟩
  exact Nm.dig_range (List.all_eq_true.1 h _ hm)

def RP1 (s : ByteArray) (a : Nat) (i : Value) : Prop := ∃ k : Nat, a ≤ k ∧ k ≤ s.size ∧ i = .int .i64 k ∧ Hid (Nm.run (s.data.toList.drop a) = (k - a) + Nm.run (s.data.toList.drop k))
def RP2 (s : ByteArray) (a : Nat) (n i : Value) : Prop := ∃ k v : Nat, a ≤ k ∧ k ≤ s.size ∧ i = .int .i64 k ∧ n = .int .i64 (-(v : Int)) ∧ v ≤ 9223372036854775808 ∧ Hid (v = Nm.val ((s.data.toList.drop a).take (k - a)))

set_option maxHeartbeats 1000000 in
theorem rparse_pos (s : ByteArray) (w : World) (hs : s.size ≤ 4611686018427387904) (hne : 0 < s.size) (h45 : ((s[0].toNat : Int) == 45) = false) :
    Calls Try.prog 21 #[.string s] w fun e w' => e = .returned (.tuple #[.int .i64 (Nm.parse s.data.toList).1, .int .i64 (Nm.parse s.data.toList).2]) ∧ w = w' := by
  have hpos : 0 < s.size := by omega
  have hneg : Nm.neg s.data.toList = false := by rw [neg_of s hpos]; simp at h45; simp; omega
  have hbd := body_drop s
  rw [hneg] at hbd
  have hbad := bad_iff s 0 hbd hne (by rw [hneg]; rfl)
  have HB := Lib.hid hbad
  have HN := Lib.hid hneg
  have HBD := Lib.hid hbd
  clear hbad hneg hbd
  have hz0 : ((0 : Int) == (s.size : Int)) = false := by simp; omega
  go_enter Try.func21, Try.ntmps21
  go_wp2
  go_loop [5] (RP1 s 0) (fun i => s.size - (intOf i).toNat)
  case atStart => exact ⟨0, by omega, by omega, rfl, by unfold Hid; simp⟩
  case round =>
    obtain ⟨k, hk0, hk, rfl, HR⟩ := hrel
    by_cases hlt : k < s.size
    · by_cases h48 : 48 ≤ (s[k].toNat : Int)
      · by_cases h57 : (s[k].toNat : Int) ≤ 57
        · go_wp2
          go_round
          case rel =>
            refine ⟨k + 1, by omega, by omega, by go_num, ?_⟩
            unfold Hid
            have hd : Nm.dig s[k] = true := by unfold Nm.dig; simp; omega
            rw [HR.out, run_at s k hlt, if_pos hd]; omega
          case measure => simp [intOf]; omega
        · go_wp2
          go_ret2
          have hd : Nm.dig s[k] = false := by unfold Nm.dig; simp; omega
          have hb : Nm.bad s.data.toList = true := by rw [HB.out, HR.out, run_at s k hlt, hd]; simp; omega
          rw [parse_bad hb]; exact ⟨rfl, rfl⟩
      · go_wp2
        go_ret2
        have hd : Nm.dig s[k] = false := by unfold Nm.dig; simp; omega
        have hb : Nm.bad s.data.toList = true := by rw [HB.out, HR.out, run_at s k hlt, hd]; simp; omega
        rw [parse_bad hb]; exact ⟨rfl, rfl⟩
    · have hrun : Nm.run (s.data.toList.drop 0) = s.size - 0 := by rw [HR.out, run_end s k (by omega)]; omega
      have hall := (run_all (s.data.toList.drop 0)).1 (by rw [hrun, List.length_drop, len_data])
      have HA := Lib.hid hall
      have HR2 := Lib.hid hrun
      clear hall hrun HR
      by_cases hz : s[0].toNat = 48 ∧ 1 < s.size
      · obtain ⟨hz1, hz2⟩ := hz
        have hb : Nm.bad s.data.toList = true := by rw [HB.out]; simp; omega
        have HBB := Lib.hid hb
        have hz3 : ((s[0].toNat : Int) == 48) = true := by simp; omega
        clear hb hz1
        go_wp2
        go_ret2
        rw [parse_bad HBB.out]; exact ⟨rfl, rfl⟩
      · have hb : Nm.bad s.data.toList = false := by rw [HB.out, HR2.out]; simp; omega
        have HG := Lib.hid hb
        clear hb
        go_wp2
        all_goals first
          | (exfalso; omega)
          | (go_loop [7, 8] (RP2 s 0) (fun _ i => s.size - (intOf i).toNat)
             case atStart => exact ⟨0, 0, by omega, by omega, rfl, rfl, by omega, by unfold Hid; simp [Nm.val, Nm.vr]⟩
             case round =>
               obtain ⟨j, v, hj0, hj, rfl, rfl, hv, HV⟩ := hrel
               by_cases hlj : j < s.size
               · have hdg := all_from HA.out j hj0 hlj
                 have g48 := hdg.1
                 have g57 := hdg.2
                 clear hdg
                 have hsn : Nm.val ((s.data.toList.drop 0).take (j + 1 - 0)) = Nm.val ((s.data.toList.drop 0).take (j - 0)) * 10 + (s[j].toNat - 48) := by rw [dtake_snoc s 0 j hj0 hlj, val_snoc]
                 have hle := val_take_le (s.data.toList.drop 0) (j + 1 - 0)
                 rw [hsn, ← HV.out] at hle
                 rw [← HV.out] at hsn
                 have HS := Lib.hid hsn
                 have HL := Lib.hid hle
                 have hq : (-9223372036854775808 + ((s[j].toNat : Int) - 48)).tdiv 10 = -((9223372036854775808 - ((s[j].toNat : Int) - 48)) / 10) := by
                   rw [show (-9223372036854775808 + ((s[j].toNat : Int) - 48)) = -(9223372036854775808 - ((s[j].toNat : Int) - 48)) from by omega, Int.neg_tdiv, Int.tdiv_eq_ediv_of_nonneg (by omega)]
                 clear hsn hle
                 go_wp2
                 · go_ret2
                   have hbig : Nm.bound (Nm.neg s.data.toList) < Nm.val (Nm.body s.data.toList) := by
                     rw [HBD.out, HN.out]; have := HL.out; unfold Nm.bound; simp only [if_false, Bool.false_eq_true]; omega
                   rw [parse_big HG.out hbig]
                   exact ⟨rfl, rfl⟩
                 · go_round
                   case rel => exact ⟨j + 1, v * 10 + (s[j].toNat - 48), by omega, by omega, by go_num, by congr 1; omega, by omega, by unfold Hid; rw [HS.out]⟩
                   case measure => simp [intOf]; omega
               · have hv2 : v = Nm.val (s.data.toList.drop 0) := by rw [HV.out, List.take_of_length_le (by rw [List.length_drop, len_data]; omega)]
                 have HV2 := Lib.hid hv2
                 clear hv2 HV
                 by_cases hmin : v = 9223372036854775808
                 · have hm : ((-(v : Int)) == -9223372036854775808) = true := by simp; omega
                   have HM := Lib.hid hmin
                   clear hmin
                   go_wp2
                   go_ret2
                   have hbig : Nm.bound (Nm.neg s.data.toList) < Nm.val (Nm.body s.data.toList) := by
                     rw [HBD.out, HN.out]; have := HV2.out; have := HM.out; unfold Nm.bound; simp only [if_false, Bool.false_eq_true]; omega
                   rw [parse_big HG.out hbig]
                   exact ⟨rfl, rfl⟩
                 · have hm : ((-(v : Int)) == -9223372036854775808) = false := by simp; omega
                   go_wp2
                   go_ret2
                   have hok : Nm.val (Nm.body s.data.toList) ≤ Nm.bound (Nm.neg s.data.toList) := by
                     rw [HBD.out, HN.out]; have := HV2.out; unfold Nm.bound; simp only [if_false, Bool.false_eq_true]; omega
                   rw [parse_ok HG.out hok, HN.out, HBD.out]
                   exact ⟨ret_ii (by simp only [Bool.false_eq_true, if_false]; rw [← HV2.out]) rfl, rfl⟩)

set_option maxHeartbeats 1000000 in
theorem rparse_neg (s : ByteArray) (w : World) (hs : s.size ≤ 4611686018427387904) (hne : 1 < s.size) (h45 : (((s[0]'(by omega)).toNat : Int) == 45) = true) :
    Calls Try.prog 21 #[.string s] w fun e w' => e = .returned (.tuple #[.int .i64 (Nm.parse s.data.toList).1, .int .i64 (Nm.parse s.data.toList).2]) ∧ w = w' := by
  have hpos : 0 < s.size := by omega
  have hneg : Nm.neg s.data.toList = true := by rw [neg_of s hpos]; simp at h45; simp; omega
  have hbd := body_drop s
  rw [hneg] at hbd
  have hbad := bad_iff s 1 hbd hne (by rw [hneg]; rfl)
  have HB := Lib.hid hbad
  have HN := Lib.hid hneg
  have HBD := Lib.hid hbd
  clear hbad hneg hbd
  have hz0 : ((1 : Int) == (s.size : Int)) = false := by simp; omega
  go_enter Try.func21, Try.ntmps21
  go_wp2
  go_loop [5] (RP1 s 1) (fun i => s.size - (intOf i).toNat)
  case atStart => exact ⟨1, by omega, by omega, rfl, by unfold Hid; simp⟩
  case round =>
    obtain ⟨k, hk0, hk, rfl, HR⟩ := hrel
    by_cases hlt : k < s.size
    · by_cases h48 : 48 ≤ (s[k].toNat : Int)
      · by_cases h57 : (s[k].toNat : Int) ≤ 57
        · go_wp2
          go_round
          case rel =>
            refine ⟨k + 1, by omega, by omega, by go_num, ?_⟩
            unfold Hid
            have hd : Nm.dig s[k] = true := by unfold Nm.dig; simp; omega
            rw [HR.out, run_at s k hlt, if_pos hd]; omega
          case measure => simp [intOf]; omega
        · go_wp2
          go_ret2
          have hd : Nm.dig s[k] = false := by unfold Nm.dig; simp; omega
          have hb : Nm.bad s.data.toList = true := by rw [HB.out, HR.out, run_at s k hlt, hd]; simp; omega
          rw [parse_bad hb]; exact ⟨rfl, rfl⟩
      · go_wp2
        go_ret2
        have hd : Nm.dig s[k] = false := by unfold Nm.dig; simp; omega
        have hb : Nm.bad s.data.toList = true := by rw [HB.out, HR.out, run_at s k hlt, hd]; simp; omega
        rw [parse_bad hb]; exact ⟨rfl, rfl⟩
    · have hrun : Nm.run (s.data.toList.drop 1) = s.size - 1 := by rw [HR.out, run_end s k (by omega)]; omega
      have hall := (run_all (s.data.toList.drop 1)).1 (by rw [hrun, List.length_drop, len_data])
      have HA := Lib.hid hall
      have HR2 := Lib.hid hrun
      clear hall hrun HR
      by_cases hz : s[1].toNat = 48 ∧ 1 < s.size
      · obtain ⟨hz1, hz2⟩ := hz
        have hb : Nm.bad s.data.toList = true := by rw [HB.out]; simp; omega
        have HBB := Lib.hid hb
        have hz3 : ((s[1].toNat : Int) == 48) = true := by simp; omega
        clear hb hz1
        go_wp2
        go_ret2
        rw [parse_bad HBB.out]; exact ⟨rfl, rfl⟩
      · have hb : Nm.bad s.data.toList = false := by rw [HB.out, HR2.out]; simp; omega
        have HG := Lib.hid hb
        clear hb
        go_wp2
        all_goals first
          | (exfalso; omega)
          | (go_loop [7, 8] (RP2 s 1) (fun _ i => s.size - (intOf i).toNat)
             case atStart => exact ⟨1, 0, by omega, by omega, rfl, rfl, by omega, by unfold Hid; simp [Nm.val, Nm.vr]⟩
             case round =>
               obtain ⟨j, v, hj0, hj, rfl, rfl, hv, HV⟩ := hrel
               by_cases hlj : j < s.size
               · have hdg := all_from HA.out j hj0 hlj
                 have g48 := hdg.1
                 have g57 := hdg.2
                 clear hdg
                 have hsn : Nm.val ((s.data.toList.drop 1).take (j + 1 - 1)) = Nm.val ((s.data.toList.drop 1).take (j - 1)) * 10 + (s[j].toNat - 48) := by rw [dtake_snoc s 1 j hj0 hlj, val_snoc]
                 have hle := val_take_le (s.data.toList.drop 1) (j + 1 - 1)
                 rw [hsn, ← HV.out] at hle
                 rw [← HV.out] at hsn
                 have HS := Lib.hid hsn
                 have HL := Lib.hid hle
                 have hq : (-9223372036854775808 + ((s[j].toNat : Int) - 48)).tdiv 10 = -((9223372036854775808 - ((s[j].toNat : Int) - 48)) / 10) := by
                   rw [show (-9223372036854775808 + ((s[j].toNat : Int) - 48)) = -(9223372036854775808 - ((s[j].toNat : Int) - 48)) from by omega, Int.neg_tdiv, Int.tdiv_eq_ediv_of_nonneg (by omega)]
                 clear hsn hle
                 go_wp2
                 · go_ret2
                   have hbig : Nm.bound (Nm.neg s.data.toList) < Nm.val (Nm.body s.data.toList) := by
                     rw [HBD.out, HN.out]; have := HL.out; unfold Nm.bound; simp only [if_true]; omega
                   rw [parse_big HG.out hbig]
                   exact ⟨rfl, rfl⟩
                 · go_round
                   case rel => exact ⟨j + 1, v * 10 + (s[j].toNat - 48), by omega, by omega, by go_num, by congr 1; omega, by omega, by unfold Hid; rw [HS.out]⟩
                   case measure => simp [intOf]; omega
               · have hv2 : v = Nm.val (s.data.toList.drop 1) := by rw [HV.out, List.take_of_length_le (by rw [List.length_drop, len_data]; omega)]
                 have HV2 := Lib.hid hv2
                 clear hv2 HV
                 go_wp2
                 go_ret2
                 have hok : Nm.val (Nm.body s.data.toList) ≤ Nm.bound (Nm.neg s.data.toList) := by
                   rw [HBD.out, HN.out]; have := HV2.out; unfold Nm.bound; simp only [if_true]; omega
                 rw [parse_ok HG.out hok, HN.out, HBD.out]
                 exact ⟨ret_ii (by simp only [if_true]; rw [← HV2.out]) rfl, rfl⟩)

set_option maxHeartbeats 1000000 in
theorem rparse_none (s : ByteArray) (w : World) (h0 : s.size = 0) :
    Calls Try.prog 21 #[.string s] w fun e w' => e = .returned (.tuple #[.int .i64 (Nm.parse s.data.toList).1, .int .i64 (Nm.parse s.data.toList).2]) ∧ w = w' := by
  have hp : Nm.parse s.data.toList = (0, 2) := by
    have : s.data.toList = [] := List.eq_nil_of_length_eq_zero (by rw [len_data]; exact h0)
    rw [this]; rfl
  have HP := Lib.hid hp
  clear hp
  go_enter Try.func21, Try.ntmps21
  go_wp2
  go_ret2
  rw [HP.out]
  exact ⟨rfl, rfl⟩

set_option maxHeartbeats 1000000 in
theorem rparse_neg1 (s : ByteArray) (w : World) (hne : 0 < s.size) (hle : s.size ≤ 1) (h45 : ((s[0].toNat : Int) == 45) = true) :
    Calls Try.prog 21 #[.string s] w fun e w' => e = .returned (.tuple #[.int .i64 (Nm.parse s.data.toList).1, .int .i64 (Nm.parse s.data.toList).2]) ∧ w = w' := by
  have hneg : Nm.neg s.data.toList = true := by rw [neg_of s (by omega)]; simp at h45; simp; omega
  have hbd := body_neg hneg
  have hb : Nm.bad s.data.toList = true := by
    unfold Nm.bad
    rw [hbd]
    have : (s.extract 1 s.size).data.toList = [] := List.eq_nil_of_length_eq_zero (by rw [len_data, size_tail]; omega)
    rw [this]; rfl
  have HP := Lib.hid (parse_bad hb)
  have h1 : ((1 : Int) == (s.size : Int)) = true := by simp; omega
  clear hb hbd hneg
  go_enter Try.func21, Try.ntmps21
  go_wp2
  go_ret2
  rw [HP.out]
  exact ⟨rfl, rfl⟩

/-- the reference's Parse: the number of a text, or the error -/
theorem rparse_any (s : ByteArray) (w : World) (hs : s.size ≤ 4611686018427387904) :
    Calls Try.prog 21 #[.string s] w fun e w' => e = .returned (.tuple #[.int .i64 (Nm.parse s.data.toList).1, .int .i64 (Nm.parse s.data.toList).2]) ∧ w = w' := by
  rcases Nat.eq_zero_or_pos s.size with h0 | h0
  · exact rparse_none s w h0
  · by_cases h : s[0].toNat = 45
    · by_cases h1 : s.size ≤ 1
      · exact rparse_neg1 s w h0 h1 (by simp; omega)
      · exact rparse_neg s w hs (by omega) (by simp; omega)
    · exact rparse_pos s w hs h0 (by simp; omega)

end Go.Proofs.Ythbpkmmnoeikoaa
