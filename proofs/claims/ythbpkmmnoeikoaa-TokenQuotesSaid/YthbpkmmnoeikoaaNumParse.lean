/-
  num.Parse: the number of a text, or the error. Condition: the text is no longer than 2^62 bytes.
-/
import Derived.Test.YthbpkmmnoeikoaaNumRun
import Derived.Lib.IndexBytes
namespace Go.Proofs.Ythbpkmmnoeikoaa
open Go.RowKit

theorem run_all : ∀ l : List UInt8, Nm.run l = l.length ↔ l.all Nm.dig = true
  | [] => by simp [Nm.run]
  | c :: l => by
    have ih := run_all l
    unfold Nm.run
    by_cases h : Nm.dig c = true
    · simp only [h, if_true, List.length_cons, List.all_cons, Bool.true_and]
      rw [← ih]; omega
    · simp [h]

theorem run0 (s : ByteArray) (r : Nat) (hr : Hid (r = Nm.run s.data.toList)) (w : World) (hs : s.size ≤ 4611686018427387904) :
    Calls Try.prog 43 #[.string s, .int .i64 0] w fun e w' => e = .returned (.int .i64 (r : Int)) ∧ w = w' :=
  (run_any s 0 w (by omega) (by omega) hs).mono fun e w' h => by
    obtain ⟨rfl, rfl⟩ := h
    refine ⟨ret_i ?_, rfl⟩
    rw [hr.out]; simp

theorem val_snoc (l : List UInt8) (c : UInt8) : Nm.val (l ++ [c]) = Nm.val l * 10 + (c.toNat - 48) := by
  unfold Nm.val; simp [Nm.vr]; omega
theorem val_app (l r : List UInt8) : Nm.val l ≤ Nm.val (l ++ r) := by
  induction r generalizing l with
  | nil => simp
  | cons c r ih =>
    have h1 := ih (l ++ [c])
    rw [val_snoc] at h1
    have : l ++ c :: r = l ++ [c] ++ r := by simp
    rw [this]; omega
theorem val_take_le (l : List UInt8) (k : Nat) : Nm.val (l.take k) ≤ Nm.val l := by
  have := val_app (l.take k) (l.drop k)
  rwa [List.take_append_drop] at this
theorem take_snoc (s : ByteArray) (k : Nat) (h : k < s.size) : s.data.toList.take (k + 1) = s.data.toList.take k ++ [s[k]] := by
  rw [List.take_succ_eq_append_getElem (by rw [len_data]; exact h)]; rfl
theorem all_at {s : ByteArray} (h : s.data.toList.all Nm.dig = true) (k : Nat) (hk : k < s.size) : 48 ≤ s[k].toNat ∧ s[k].toNat ≤ 57 := by
  have h1 := List.all_eq_true.1 h (s.data.toList[k]'(by rw [len_data]; exact hk)) (List.getElem_mem _)
  exact Nm.dig_range h1

theorem head_data (s : ByteArray) (h : 0 < s.size) : s.data.toList = s[0] :: s.data.toList.drop 1 := by
  have := drop_cons s 0 h
  simpa using this
theorem isEmpty_of (s : ByteArray) (h : 0 < s.size) : s.toList.isEmpty = false := by
  cases he : s.toList with
  | nil =>
    have := (toList_nil_iff_emptyBytes s).1 he
    subst this; simp at h
  | cons c l => rfl
theorem neg_of (s : ByteArray) (h : 0 < s.size) : Nm.neg s.data.toList = decide (s[0].toNat = 45) := by
  rw [head_data s h]; unfold Nm.neg
  rw [Bool.eq_iff_iff]
  simp only [List.head?_cons, beq_iff_eq, Option.some.injEq, decide_eq_true_eq]
  exact ⟨fun e => by rw [e]; rfl, fun e => UInt8.toNat_inj.1 e⟩

theorem body_pos {s : ByteArray} (h : Nm.neg s.data.toList = false) : Nm.body s.data.toList = s.data.toList := by unfold Nm.body; rw [h]; rfl
theorem parse_bad {l : List UInt8} (h : Nm.bad l = true) : Nm.parse l = (0, 2) := by unfold Nm.parse; rw [if_pos h]
theorem parse_big {l : List UInt8} (h : Nm.bad l = false) (h' : Nm.bound (Nm.neg l) < Nm.val (Nm.body l)) : Nm.parse l = (0, 5) := by unfold Nm.parse; rw [if_neg (by simp [h]), if_pos h']
theorem parse_ok {l : List UInt8} (h : Nm.bad l = false) (h' : Nm.val (Nm.body l) ≤ Nm.bound (Nm.neg l)) : Nm.parse l = (if Nm.neg l then -(Nm.val (Nm.body l) : Int) else Nm.val (Nm.body l), 0) := by
  unfold Nm.parse; rw [if_neg (by simp [h]), if_neg (by omega)]

set_option maxHeartbeats 1000000 in
theorem parse_pos (s : ByteArray) (w : World) (hs : s.size ≤ 4611686018427387904) (hne : 0 < s.size) (h45 : ((s[0].toNat : Int) == 45) = false) :
    Calls Try.prog 20 #[.string s] w fun e w' => e = .returned (.tuple #[.int .i64 (Nm.parse s.data.toList).1, .int .i64 (Nm.parse s.data.toList).2]) ∧ w = w' := by
  have hl := isEmpty_of s hne
  have hneg : Nm.neg s.data.toList = false := by rw [neg_of s hne]; simp at h45; simp; omega
  have hbd := body_pos hneg
  have hhd := head_data s hne
  obtain ⟨r, hr⟩ : ∃ r, r = Nm.run s.data.toList := ⟨_, rfl⟩
  have hrl := run_le s.data.toList
  rw [← hr, len_data] at hrl
  have hbad : Nm.bad s.data.toList = (decide (r ≠ s.size) || (decide (s[0].toNat = 48) && decide (1 < s.size))) := by
    unfold Nm.bad
    rw [hbd, hneg, len_data, Bool.or_false]
    have e1 : s.data.toList.isEmpty = false := by rw [hhd]; rfl
    have e2 : (!s.data.toList.all Nm.dig) = decide (r ≠ s.size) := by
      have := run_all s.data.toList
      rw [← hr, len_data] at this
      by_cases hc : s.data.toList.all Nm.dig = true
      · have h2 := this.2 hc
        rw [hc, decide_eq_false (by omega)]; rfl
      · have h2 : r ≠ s.size := fun e => hc (this.1 e)
        rw [decide_eq_true h2]; simp only [Bool.not_eq_true] at hc; rw [hc]; rfl
    have e3 : (s.data.toList.head? == some 48) = decide (s[0].toNat = 48) := by
      rw [hhd, Bool.eq_iff_iff]
      simp only [List.head?_cons, beq_iff_eq, Option.some.injEq, decide_eq_true_eq]
      exact ⟨fun e => by rw [e]; rfl, fun e => UInt8.toNat_inj.1 e⟩
    rw [e1, e2, e3]; simp
  have hall : r = s.size → s.data.toList.all Nm.dig = true := fun e => (run_all s.data.toList).1 (by rw [← hr, len_data, e])
  have HR := Lib.hid hr
  clear hr hhd
  have HB := Lib.hid hbad
  have HN := Lib.hid hneg
  have HBD := Lib.hid hbd
  have HA := Lib.hid hall
  clear hbad hneg hbd hall
  go_enter Try.func20, Try.ntmps20
  go_wp2_with (go_at_call 43; refine (run0 _ r HR _ hs).mono ?_; rintro e w' ⟨rfl, rfl⟩)
  all_goals try (go_ret2; exact ⟨ret_ii (by rw [parse_bad (by rw [HB.out]; simp; omega)]) (by rw [parse_bad (by rw [HB.out]; simp; omega)]), rfl⟩)
  all_goals
    have hg : Nm.bad s.data.toList = false := by rw [HB.out]; simp; omega
    have hrs : r = s.size := by omega
    have HA2 := Lib.hid (HA.out hrs)
    have HG := Lib.hid hg
    clear hg hrs
    go_loop [7, 48] (fun m i => ∃ k v : Nat, k ≤ s.size ∧ i = .int .i64 k ∧ m = .int .u64 v ∧ v ≤ 9223372036854775807 ∧ Hid (v = Nm.val (s.data.toList.take k))) (fun _ i => s.size - (intOf i).toNat)
    case atStart => exact ⟨0, 0, by omega, rfl, rfl, by omega, by unfold Hid; rfl⟩
    case round =>
      obtain ⟨k, v, hk, rfl, rfl, hv, HV⟩ := hrel
      by_cases hlt : k < s.size
      · have hdg := all_at HA2.out k hlt
        have h48 := hdg.1
        have h57 := hdg.2
        clear hdg
        have hsn : Nm.val (s.data.toList.take (k + 1)) = Nm.val (s.data.toList.take k) * 10 + (s[k].toNat - 48) := by rw [take_snoc s k hlt, val_snoc]
        have hle := val_take_le s.data.toList (k + 1)
        rw [hsn, ← HV.out] at hle
        rw [← HV.out] at hsn
        have HS := Lib.hid hsn
        have HL := Lib.hid hle
        clear hsn hle
        go_wp2
        · go_ret2
          have hbig : Nm.bound (Nm.neg s.data.toList) < Nm.val (Nm.body s.data.toList) := by
            rw [HBD.out, HN.out]; have := HL.out; unfold Nm.bound; simp only [Bool.false_eq_true, if_false]; omega
          rw [parse_big HG.out hbig]
          exact ⟨rfl, rfl⟩
        · go_round
          case rel => exact ⟨k + 1, v * 10 + (s[k].toNat - 48), by omega, by go_num, by congr 1; omega, by omega, by unfold Hid; rw [HS.out]⟩
          case measure => simp [intOf]; omega
      · go_wp2
        go_ret2
        obtain rfl : k = s.size := by omega
        have hv2 : v = Nm.val s.data.toList := by rw [HV.out, List.take_of_length_le (by rw [len_data]; exact Nat.le_refl _)]
        have hok : Nm.val (Nm.body s.data.toList) ≤ Nm.bound (Nm.neg s.data.toList) := by
          rw [HBD.out, HN.out, ← hv2]; exact hv
        rw [parse_ok HG.out hok, HN.out, HBD.out, ← hv2]
        exact ⟨ret_ii (by simp) rfl, rfl⟩

theorem body_neg {s : ByteArray} (h : Nm.neg s.data.toList = true) : Nm.body s.data.toList = (s.extract 1 s.size).data.toList := by
  unfold Nm.body; rw [h, Lib.extract_to_end]; simp
theorem size_tail (s : ByteArray) : (s.extract 1 s.size).size = s.size - 1 := by rw [ByteArray.size_extract]; omega

theorem isEmpty_nil (s : ByteArray) (h : s.size = 0) : s.toList.isEmpty = true := by
  have : s.toList = [] := (toList_nil_iff_emptyBytes s).2 (by
    apply ByteArray.ext
    have : s.data = #[] := Array.eq_empty_of_size_eq_zero h
    rw [this]; rfl)
  rw [this]; rfl

set_option maxHeartbeats 1000000 in
theorem parse_neg1 (s : ByteArray) (w : World) (hne : 0 < s.size) (hle : s.size ≤ 1) (h45 : ((s[0].toNat : Int) == 45) = true) :
    Calls Try.prog 20 #[.string s] w fun e w' => e = .returned (.tuple #[.int .i64 (Nm.parse s.data.toList).1, .int .i64 (Nm.parse s.data.toList).2]) ∧ w = w' := by
  have hl := isEmpty_of s (by omega)
  have hneg : Nm.neg s.data.toList = true := by rw [neg_of s (by omega)]; simp at h45; simp; omega
  have hbd := body_neg hneg
  have he : (s.extract 1 s.size).toList.isEmpty = true := isEmpty_nil _ (by rw [size_tail]; omega)
  have hb : Nm.bad s.data.toList = true := by
    unfold Nm.bad
    rw [hbd]
    have : (s.extract 1 s.size).data.toList = [] := List.eq_nil_of_length_eq_zero (by rw [len_data, size_tail]; omega)
    rw [this]; rfl
  have hp := parse_bad hb
  have HP := Lib.hid hp
  clear hp hb hbd hneg
  go_enter Try.func20, Try.ntmps20
  go_wp2
  go_ret2
  rw [HP.out]
  exact ⟨rfl, rfl⟩

set_option maxHeartbeats 1000000 in
theorem parse_neg (s : ByteArray) (w : World) (hs : s.size ≤ 4611686018427387904) (hne : 1 < s.size) (h45 : ((s[0].toNat : Int) == 45) = true) :
    Calls Try.prog 20 #[.string s] w fun e w' => e = .returned (.tuple #[.int .i64 (Nm.parse s.data.toList).1, .int .i64 (Nm.parse s.data.toList).2]) ∧ w = w' := by
  have hl := isEmpty_of s (by omega)
  have hneg : Nm.neg s.data.toList = true := by rw [neg_of s (by omega)]; simp at h45; simp; omega
  have hbd := body_neg hneg
  have hsz := size_tail s
  have he := isEmpty_of (s.extract 1 s.size) (by omega)
  have h1 : 0 < s.size := by omega
  have HN := Lib.hid hneg
  have HBD := Lib.hid hbd
  have HSZ := Lib.hid hsz
  clear hneg hbd hsz
  go_enter Try.func20, Try.ntmps20
  go_wp2_with fail
  generalize s.extract 1 s.size = d at *
  have hds : d.size ≤ 4611686018427387904 := by have := HSZ.out; omega
  have hd0 : 0 < d.size := by have := HSZ.out; omega
  have hhd := head_data d hd0
  obtain ⟨r, hr⟩ : ∃ r, r = Nm.run d.data.toList := ⟨_, rfl⟩
  have hrl := run_le d.data.toList
  rw [← hr, len_data] at hrl
  have hbad : Nm.bad s.data.toList = (decide (r ≠ d.size) || decide (d[0].toNat = 48)) := by
    unfold Nm.bad
    rw [HBD.out, HN.out, len_data, Bool.or_true]
    have e1 : d.data.toList.isEmpty = false := by rw [hhd]; rfl
    have e2 : (!d.data.toList.all Nm.dig) = decide (r ≠ d.size) := by
      have := run_all d.data.toList
      rw [← hr, len_data] at this
      by_cases hc : d.data.toList.all Nm.dig = true
      · have h2 := this.2 hc
        rw [hc, decide_eq_false (by omega)]; rfl
      · have h2 : r ≠ d.size := fun e => hc (this.1 e)
        rw [decide_eq_true h2]; simp only [Bool.not_eq_true] at hc; rw [hc]; rfl
    have e3 : (d.data.toList.head? == some 48) = decide (d[0].toNat = 48) := by
      rw [hhd, Bool.eq_iff_iff]
      simp only [List.head?_cons, beq_iff_eq, Option.some.injEq, decide_eq_true_eq]
      exact ⟨fun e => by rw [e]; rfl, fun e => UInt8.toNat_inj.1 e⟩
    rw [e1, e2, e3]; simp
  have hall : r = d.size → d.data.toList.all Nm.dig = true := fun e => (run_all d.data.toList).1 (by rw [← hr, len_data, e])
  have HR := Lib.hid hr
  clear hr hhd
  have HB := Lib.hid hbad
  have HA := Lib.hid hall
  clear hbad hall
  refine (run0 _ r HR _ hds).mono ?_
  rintro e w' ⟨rfl, rfl⟩
  go_wp2
  all_goals try (go_ret2; exact ⟨ret_ii (by rw [parse_bad (by rw [HB.out]; simp; omega)]) (by rw [parse_bad (by rw [HB.out]; simp; omega)]), rfl⟩)
  have hg : Nm.bad s.data.toList = false := by rw [HB.out]; simp; omega
  have hrs : r = d.size := by omega
  have HA2 := Lib.hid (HA.out hrs)
  have HG := Lib.hid hg
  clear hg hrs
  go_loop [7, 48] (fun m i => ∃ k v : Nat, k ≤ d.size ∧ i = .int .i64 k ∧ m = .int .u64 v ∧ v ≤ 9223372036854775808 ∧ Hid (v = Nm.val (d.data.toList.take k))) (fun _ i => d.size - (intOf i).toNat)
  case atStart => exact ⟨0, 0, by omega, rfl, rfl, by omega, by unfold Hid; rfl⟩
  case round =>
    obtain ⟨k, v, hk, rfl, rfl, hv, HV⟩ := hrel
    by_cases hlt : k < d.size
    · have hdg := all_at HA2.out k hlt
      have h48 := hdg.1
      have h57 := hdg.2
      clear hdg
      have hsn : Nm.val (d.data.toList.take (k + 1)) = Nm.val (d.data.toList.take k) * 10 + (d[k].toNat - 48) := by rw [take_snoc d k hlt, val_snoc]
      have hle := val_take_le d.data.toList (k + 1)
      rw [hsn, ← HV.out] at hle
      rw [← HV.out] at hsn
      have HS := Lib.hid hsn
      have HL := Lib.hid hle
      clear hsn hle
      go_wp2
      · go_ret2
        have hbig : Nm.bound (Nm.neg s.data.toList) < Nm.val (Nm.body s.data.toList) := by
          rw [HBD.out, HN.out]; have := HL.out; unfold Nm.bound; simp only [if_true]; omega
        rw [parse_big HG.out hbig]
        exact ⟨rfl, rfl⟩
      · go_round
        case rel => exact ⟨k + 1, v * 10 + (d[k].toNat - 48), by omega, by go_num, by congr 1; omega, by omega, by unfold Hid; rw [HS.out]⟩
        case measure => simp [intOf]; omega
    · go_wp2
      go_ret2
      obtain rfl : k = d.size := by omega
      have hv2 : v = Nm.val d.data.toList := by rw [HV.out, List.take_of_length_le (by rw [len_data]; exact Nat.le_refl _)]
      have hok : Nm.val (Nm.body s.data.toList) ≤ Nm.bound (Nm.neg s.data.toList) := by
        rw [HBD.out, HN.out, ← hv2]; exact hv
      rw [parse_ok HG.out hok, HN.out, HBD.out, ← hv2]
      exact ⟨ret_ii (by simp only [wrap64_eq, IntKind.wrap_u64, if_true]; omega) rfl, rfl⟩

set_option maxHeartbeats 1000000 in
theorem parse_none (s : ByteArray) (w : World) (h0 : s.size = 0) :
    Calls Try.prog 20 #[.string s] w fun e w' => e = .returned (.tuple #[.int .i64 (Nm.parse s.data.toList).1, .int .i64 (Nm.parse s.data.toList).2]) ∧ w = w' := by
  have hl := isEmpty_nil s h0
  have hp : Nm.parse s.data.toList = (0, 2) := by
    have : s.data.toList = [] := List.eq_nil_of_length_eq_zero (by rw [len_data]; exact h0)
    rw [this]; rfl
  have HP := Lib.hid hp
  clear hp h0
  go_enter Try.func20, Try.ntmps20
  go_wp2
  go_ret2
  rw [HP.out]
  exact ⟨rfl, rfl⟩

/-- num.Parse: the number of a text, or the error -/
theorem parse_any (s : ByteArray) (w : World) (hs : s.size ≤ 4611686018427387904) :
    Calls Try.prog 20 #[.string s] w fun e w' => e = .returned (.tuple #[.int .i64 (Nm.parse s.data.toList).1, .int .i64 (Nm.parse s.data.toList).2]) ∧ w = w' := by
  rcases Nat.eq_zero_or_pos s.size with h0 | h0
  · exact parse_none s w h0
  · by_cases h : s[0].toNat = 45
    · by_cases h1 : s.size ≤ 1
      · exact parse_neg1 s w h0 h1 (by simp; omega)
      · exact parse_neg s w hs (by omega) (by simp; omega)
    · exact parse_pos s w hs h0 (by simp; omega)

end Go.Proofs.Ythbpkmmnoeikoaa
