/-
  The reference's digits, Number and in. Condition: texts shorter than 2^32 bytes.
-/
import Derived.Test.YthbpkmmnoeikoaaTokNumberJJm
import Derived.Test.YthbpkmmnoeikoaaJm21
import Derived.Deep.DeepCutAuto
namespace Go.Proofs.Ythbpkmmnoeikoaa
open Go Go.RowKit
set_option linter.unusedVariables false
set_option linter.unusedSimpArgs false

theorem digs_at (s : ByteArray) (k : Nat) (h : k < s.size) : Tk.digs (s.data.toList.drop k) = if Tk.dig s[k] then Tk.digs (s.data.toList.drop (k + 1)) + 1 else 0 := by
  rw [drop_cons s k h]; exact Tk.span_cons _ _ _
theorem digs_end (s : ByteArray) (k : Nat) (h : s.size ≤ k) : Tk.digs (s.data.toList.drop k) = 0 := by
  rw [List.drop_eq_nil_of_le (by rw [len_data]; exact h)]; rfl

set_option maxHeartbeats 400000 in
theorem rdigits_any (s : ByteArray) (at0 : Nat) (z : Int) (w : World) (hz : z = at0) (hp' : at0 ≤ s.size) (hs : s.size ≤ 4294967280) :
    Calls Try.prog 97 #[.string s, .int .i64 z] w fun e w' => e = .returned (.int .i64 (Tk.digs (s.data.toList.drop at0) : Nat)) ∧ w = w' := by
  subst hz
  go_enter Try.func97, Try.ntmps97
  go_wp2
  go_loop [5] (fun n => ∃ k : Nat, at0 + k ≤ s.size ∧ n = .int .i64 k ∧ Hid (Tk.digs (s.data.toList.drop at0) = k + Tk.digs (s.data.toList.drop (at0 + k)))) (fun n => s.size - (intOf n).toNat)
  case atStart => exact ⟨0, by omega, rfl, by unfold Hid; simp⟩
  case round =>
    obtain ⟨k, hk, rfl, HR⟩ := hrel
    by_cases hlt : at0 + k < s.size
    · by_cases h48 : 48 ≤ (s[at0 + k].toNat : Int)
      · by_cases h57 : (s[at0 + k].toNat : Int) ≤ 57
        · go_wp2
          go_round
          case rel =>
            refine ⟨k + 1, by omega, by go_num, ?_⟩
            unfold Hid
            have hd : Tk.dig s[at0 + k] = true := by unfold Tk.dig; simp; omega
            rw [HR.out, digs_at s (at0 + k) hlt, if_pos hd, Nat.add_assoc at0 k 1]; omega
          case measure => simp [intOf]; omega
        · go_wp2
          go_ret
          have hd : Tk.dig s[at0 + k] = false := by unfold Tk.dig; simp; omega
          exact ⟨ret_i (by rw [HR.out, digs_at s (at0 + k) hlt, hd]; simp), rfl⟩
      · go_wp2
        go_ret
        have hd : Tk.dig s[at0 + k] = false := by unfold Tk.dig; simp; omega
        exact ⟨ret_i (by rw [HR.out, digs_at s (at0 + k) hlt, hd]; simp), rfl⟩
    · go_wp2
      go_ret
      exact ⟨ret_i (by rw [HR.out, digs_end s (at0 + k) (by omega)]; simp), rfl⟩

def InR (c : UInt8) (t : ByteArray) (B : Bool) (i : Value) : Prop := ∃ k : Nat, k ≤ t.size ∧ i = .int .i64 k ∧ Hid (B = (t.data.toList.drop k).contains c)

set_option maxHeartbeats 400000 in
theorem rin_any (c : UInt8) (t : ByteArray) (w : World) (hs : t.size ≤ 4294967280) :
    Calls Try.prog 72 #[.int .u8 (c.toNat : Int), .string t] w fun e w' => e = .returned (.bool (t.data.toList.contains c)) ∧ w = w' := by
  obtain ⟨B, hB⟩ : ∃ B, B = t.data.toList.contains c := ⟨_, rfl⟩
  rw [← hB]
  have HB : Hid (B = (t.data.toList.drop 0).contains c) := Lib.hid hB
  clear hB
  go_enter Try.func72, Try.ntmps72
  go_wp2
  go_loop [5] (InR c t B) (fun n => t.size - (intOf n).toNat)
  case atStart => exact ⟨0, by omega, rfl, HB⟩
  case round =>
    obtain ⟨k, hk, rfl, HR⟩ := hrel
    clear HB
    by_cases hlt : k < t.size
    · have hd := drop_cons t k hlt
      have hr := HR.out
      rw [hd, List.contains_cons] at hr
      by_cases hc : t[k] = c
      · have tc : ((t[k].toNat : Int) == (c.toNat : Int)) = true := by rw [hc]; simp
        have HC := Lib.hid (show B = true by rw [hr, hc]; simp)
        clear hr HR hd hc
        go_wp2
        go_ret
        exact ⟨ret_b HC.out.symm, rfl⟩
      · have tc : ((t[k].toNat : Int) == (c.toNat : Int)) = false := beq_eq_false_iff_ne.2 (fun e => hc (UInt8.toNat_inj.1 (by omega)))
        have HC := Lib.hid (show B = (t.data.toList.drop (k + 1)).contains c by
          rw [hr, show (c == t[k]) = false from beq_eq_false_iff_ne.2 (fun e => hc e.symm)]; simp)
        clear hr HR hd hc
        go_wp2
        go_round
        case rel => exact ⟨k + 1, by omega, by go_num, HC⟩
        case measure => simp [intOf]; omega
    · have HC := Lib.hid (show B = false by rw [HR.out, List.drop_eq_nil_of_le (by rw [len_data]; omega)]; rfl)
      clear HR
      go_wp2
      go_ret
      exact ⟨ret_b HC.out.symm, rfl⟩

/-- the byte at a place -/
theorem hd_at (s : ByteArray) (k : Nat) (h : k < s.size) : (s.data.toList.drop k).head? = some s[k] := by rw [drop_cons s k h]; rfl
theorem hd_end (s : ByteArray) (k : Nat) (h : ¬ k < s.size) : (s.data.toList.drop k).head? = none := by rw [List.drop_eq_nil_of_le (by rw [len_data]; omega)]; rfl
theorem byte_eqb (c : UInt8) (d : UInt8) (n : Int) (hn : (d.toNat : Int) = n) : ((c.toNat : Int) == n) = decide (c = d) := by
  by_cases h : c = d
  · subst h; rw [hn]; simp
  · rw [decide_eq_false h, beq_eq_false_iff_ne]; intro e; exact h (UInt8.toNat_inj.1 (by omega))
theorem tail_at (s : ByteArray) (k : Nat) : (s.data.toList.drop k).tail = s.data.toList.drop (k + 1) := by rw [List.tail_drop]

/-- what a number's row says, from its sign on -/
def Good (L : List UInt8) (a0 : Nat) : Prop := ¬ (Tk.digs (L.drop a0) = 0 ∨ (1 < Tk.digs (L.drop a0) ∧ (L.drop a0).head? = some 48))
def numV (p : Int × Int) : Value := .tuple #[.int .i64 p.1, .int .i64 p.2]

set_option maxRecDepth 100000 in
set_option maxHeartbeats 8000000 in
theorem rnumber_any (s : ByteArray) (w : World) (hs : s.size ≤ 4294967280) :
    Calls Try.prog 74 #[.string s] w fun e w' => e = .returned (numV (Tk.number s.data.toList)) ∧ w' = w := by
  obtain ⟨N, hN⟩ : ∃ N, N = Tk.number s.data.toList := ⟨_, rfl⟩
  rw [← hN]
  have HN := Lib.hid hN
  clear hN
  have HD := Lib.hid (fun (a : Nat) (z : Int) W h1 h2 => rdigits_any s a z W h1 h2 hs)
  have HNP := Lib.hid (fun W => rparse_any s W (by omega))
  have hm0 : (s.toList == [45, 48]) = decide (s.data.toList = [45, 48]) := by rw [ByteArray.toList_eq, Bool.eq_iff_iff]; simp
  have hdl : ∀ k, k ≤ s.size → Tk.digs (s.data.toList.drop k) ≤ s.size - k := fun k _ => by
    have := Tk.span_le Tk.dig (s.data.toList.drop k)
    rw [List.length_drop, len_data] at this; exact this
  have HDL := Lib.hid hdl
  have HM := Lib.hid hm0
  clear hdl hm0
  go_enter Try.func74, Try.ntmps74
  go_upto_region 2 with fail
  go_cut [14] (fun s14 wx => w = wx ∧ ∃ b : Bool, s14 = .bool b ∧ Hid (b = decide (s.data.toList.head? = some 45)))
  case first =>
    by_cases h0 : 0 < s.size
    · have hb := byte_eqb s[0] 45 45 rfl
      have hh := hd_at s 0 h0
      go_wp2
      go_meet
      exact ⟨rfl, _, rfl, by unfold Hid; rw [List.drop_zero] at hh; rw [hh]; simp⟩
    · have hh := hd_end s 0 h0
      go_wp2
      go_meet
      exact ⟨rfl, _, rfl, by unfold Hid; rw [List.drop_zero] at hh; rw [hh]; simp⟩
  case rest =>
  obtain ⟨rfl, b, rfl, HB⟩ := hcut
  go_upto_if 14 with fail
  go_cut [4] (fun s4 wx => w = wx ∧ ∃ a : Nat, s4 = .int .i64 (a : Int) ∧ a ≤ s.size ∧ Hid (Tk.body s.data.toList = s.data.toList.drop a))
  case first =>
    have hb := HB.out
    clear HB
    cases b with
    | true =>
      have hx : s.data.toList.head? = some 45 := of_decide_eq_true hb.symm
      have h0 : 1 ≤ s.size := by
        rw [← len_data]; cases hl : s.data.toList with
        | nil => rw [hl] at hx; cases hx
        | cons c l => simp
      go_wp2
      go_meet
      exact ⟨rfl, 1, rfl, h0, by unfold Hid Tk.body; rw [if_pos hx]; simp⟩
    | false =>
      have hx : ¬ s.data.toList.head? = some 45 := of_decide_eq_false hb.symm
      go_wp2
      go_meet
      exact ⟨rfl, 0, rfl, by omega, by unfold Hid Tk.body; rw [if_neg hx]; simp⟩
  case rest =>
  clear HB
  obtain ⟨rfl, a, rfl, ha, HA⟩ := hcut
  have he1 := @number_err1 s.data.toList
  rw [HA.out] at he1
  have hbody := Lib.hid HA.out
  have hda := HDL.out a ha
  by_cases h0 : Tk.digs (s.data.toList.drop a) = 0
  · have hn := HN.out.trans (he1 (.inl h0))
    have HC := Lib.hid (fun (z : Int) W h => HD.out a z W h ha)
    rw [h0] at HC
    obtain rfl := hn
    clear HN he1 hda h0 hbody HA HD HDL HM HNP
    go_wp2_with (go_at_call 97; with_reducible refine (HC.out _ _ rfl).mono ?_; rintro e w1 ⟨rfl, rfl⟩)
    go_ret2
    exact ⟨rfl, rfl⟩
  have hlt : a < s.size := by omega
  have hh := hd_at s a hlt
  have hb := byte_eqb s[a] 48 48 rfl
  obtain ⟨n, hn⟩ : ∃ n, n = Tk.digs (s.data.toList.drop a) := ⟨_, rfl⟩
  rw [← hn] at h0 hda
  have HC := Lib.hid (fun (z : Int) W h => HD.out a z W h ha)
  rw [← hn] at HC he1
  have HNN := Lib.hid hn
  clear hn
  have t0 : ((n : Int) == 0) = false := beq_eq_false_iff_ne.2 (by omega)
  by_cases h1 : 1 < n ∧ s[a] = 48
  · have hn := HN.out.trans (he1 (.inr ⟨h1.1, by rw [hh, h1.2]⟩))
    rw [decide_eq_true h1.2] at hb
    have t1 : decide ((n : Int) > 1) = true := decide_eq_true (by omega)
    obtain rfl := hn
    clear HN he1 hbody HA HD HDL HM HNP h1 hh
    go_wp2_with (go_at_call 97; with_reducible refine (HC.out _ _ rfl).mono ?_; rintro e w1 ⟨rfl, rfl⟩)
    go_ret2
    exact ⟨rfl, rfl⟩
  have HG : Hid (¬ (Tk.digs (Tk.body s.data.toList) = 0 ∨ (1 < Tk.digs (Tk.body s.data.toList) ∧ (Tk.body s.data.toList).head? = some 48))) := by
    unfold Hid
    rw [HA.out, ← HNN.out]
    rintro (h | ⟨h, h'⟩)
    · exact h0 h
    · rw [hh] at h'; exact h1 ⟨h, by simpa using h'⟩
  have HW : Hid ((Tk.body s.data.toList).drop (Tk.digs (Tk.body s.data.toList)) = s.data.toList.drop (a + n)) := by unfold Hid; rw [HA.out, ← HNN.out, List.drop_drop]
  clear he1 hbody HA hh HNN
  go_upto_region 5 with (go_at_call 97; with_reducible refine (HC.out _ _ rfl).mono ?_; rintro e w1 ⟨rfl, rfl⟩)
  go_cut [29] (fun s29 wx => w = wx ∧ s29 = .bool false)
  case first =>
    by_cases h2 : 1 < n
    · have t1 : decide ((n : Int) > 1) = true := decide_eq_true (by omega)
      rw [decide_eq_false (fun e => h1 ⟨h2, e⟩)] at hb
      clear h1 HN HNP HM HD
      go_wp2
      go_meet
      exact ⟨rfl, rfl⟩
    · have t1 : decide ((n : Int) > 1) = false := decide_eq_false (by omega)
      clear h1 hb HN HNP HM HD
      go_wp2
      go_meet
      exact ⟨rfl, rfl⟩
  case rest =>
  obtain ⟨rfl, rfl⟩ := hcut
  clear t0 HC h1 hb
  obtain ⟨wh, hwh⟩ : ∃ wh, wh = a + n := ⟨_, rfl⟩
  have hwz : (a : Int) + (n : Int) = (wh : Int) := by omega
  have hws : wh ≤ s.size := by omega
  rw [← hwh] at HW
  clear hwh
  go_upto_region 9 with fail
  go_cut [43] (fun s43 wx => w = wx ∧ ∃ b : Bool, s43 = .bool b ∧ Hid (b = decide ((s.data.toList.drop wh).head? = some 46)))
  case first =>
    by_cases h0 : wh < s.size
    · have hb := byte_eqb s[wh] 46 46 rfl
      have hh := hd_at s wh h0
      have t1 : decide ((wh : Int) < (s.size : Int)) = true := decide_eq_true (by omega)
      go_wp2
      go_meet
      exact ⟨rfl, _, rfl, by unfold Hid; rw [hh]; simp⟩
    · have hh := hd_end s wh h0
      have t1 : decide ((wh : Int) < (s.size : Int)) = false := decide_eq_false (by omega)
      go_wp2
      go_meet
      exact ⟨rfl, _, rfl, by unfold Hid; rw [hh]; simp⟩
  case rest =>
  obtain ⟨rfl, b, rfl, HB⟩ := hcut
  have hn1 := @number_none s.data.toList HG.out
  rw [HW.out] at hn1
  go_upto_if 43 with fail
  go_cut [4] (fun s4 wx => w = wx ∧ ∃ p : Nat, s4 = .int .i64 (p : Int) ∧ p ≤ s.size ∧ Hid (Tk.frac (s.data.toList.drop wh) = some (s.data.toList.drop p)))
  case first =>
    have hb := HB.out
    clear HB
    cases b with
    | true =>
      have hx : (s.data.toList.drop wh).head? = some 46 := of_decide_eq_true hb.symm
      have h0 : wh < s.size := by
        rcases Nat.lt_or_ge wh s.size with h | h
        · exact h
        · rw [hd_end s wh (by omega)] at hx; cases hx
      have HC := Lib.hid (fun (z : Int) W h => HD.out (wh + 1) z W h h0)
      have hdm := HDL.out (wh + 1) h0
      have hf0 := @frac_dot0 _ hx
      have hf := @frac_dot _ hx
      rw [tail_at] at hf0 hf
      by_cases hm : Tk.digs (s.data.toList.drop (wh + 1)) = 0
      · have hn := HN.out.trans (hn1 (hf0 hm))
        rw [hm] at HC
        obtain rfl := hn
        clear HN HG HW hn1 hdm hm hf0 hf hx hb HD HNP HM HDL
        go_wp2_with (go_at_call 97; with_reducible refine (HC.out _ _ (by omega)).mono ?_; rintro e w1 ⟨rfl, rfl⟩)
        go_ret2
        exact ⟨rfl, rfl⟩
      · have hf1 := hf hm
        rw [List.drop_drop] at hf1
        have HF := Lib.hid hf1
        generalize Tk.digs (s.data.toList.drop (wh + 1)) = m at *
        have t0 : ((m : Int) == 0) = false := beq_eq_false_iff_ne.2 (by omega)
        clear HN HG HW hn1 hf0 hf hx hb HD HNP HM HDL hf1
        go_wp2_with (go_at_call 97; with_reducible refine (HC.out _ _ (by omega)).mono ?_; rintro e w1 ⟨rfl, rfl⟩)
        go_meet
        exact ⟨rfl, wh + 1 + m, by go_num, by omega, HF⟩
    | false =>
      have hx : ¬ (s.data.toList.drop wh).head? = some 46 := of_decide_eq_false hb.symm
      have HF := Lib.hid (@frac_no _ hx)
      clear HN HG HW hn1 hb hx HD HNP HM HDL
      go_wp2
      go_meet
      exact ⟨rfl, wh, rfl, hws, HF⟩
  case rest =>
  clear hn1 HB
  obtain ⟨rfl, p, rfl, hp, HF⟩ := hcut
  have hn2 := @number_none2 s.data.toList (s.data.toList.drop p) HG.out
  have hn3 := @number_some s.data.toList (s.data.toList.drop p)
  rw [HW.out] at hn2 hn3
  have HN2 := Lib.hid (hn2 HF.out)
  have HN3 := Lib.hid (fun q => hn3 (q := q) HG.out HF.out)
  clear hn2 hn3 HF HG HW
  go_upto_region 14 with fail
  go_cut [69] (fun s69 wx => w = wx ∧ ∃ b : Bool, s69 = .bool b ∧ Hid (b = decide ((s.data.toList.drop p).head? = some 101 ∨ (s.data.toList.drop p).head? = some 69)))
  case first =>
    by_cases h0 : p < s.size
    · have hb := byte_eqb s[p] 101 101 rfl
      have hb2 := byte_eqb s[p] 69 69 rfl
      have hh := hd_at s p h0
      have t1 : decide ((p : Int) < (s.size : Int)) = true := decide_eq_true (by omega)
      by_cases h1 : s[p] = 101
      · rw [decide_eq_true h1] at hb
        go_wp2
        go_meet
        exact ⟨rfl, _, rfl, by unfold Hid; rw [hh, h1]; rfl⟩
      · rw [decide_eq_false h1] at hb
        go_wp2
        go_meet
        exact ⟨rfl, _, rfl, by unfold Hid; rw [hh]; simp [h1]⟩
    · have hh := hd_end s p h0
      have t1 : decide ((p : Int) < (s.size : Int)) = false := decide_eq_false (by omega)
      go_wp2
      go_meet
      exact ⟨rfl, _, rfl, by unfold Hid; rw [hh]; simp⟩
  case rest =>
  obtain ⟨rfl, b, rfl, HB⟩ := hcut
  go_upto_if 69 with fail
  go_cut [4] (fun s4 wx => w = wx ∧ ∃ q : Nat, s4 = .int .i64 (q : Int) ∧ q ≤ s.size ∧ Hid (Tk.expo (s.data.toList.drop p) = some (s.data.toList.drop q)))
  case first =>
    have hb := HB.out
    clear HB
    cases b with
    | false =>
      have hx : ¬ ((s.data.toList.drop p).head? = some 101 ∨ (s.data.toList.drop p).head? = some 69) := of_decide_eq_false hb.symm
      have HF := Lib.hid (@expo_no _ hx)
      clear HN HN2 HN3 hb hx HD HNP HM HDL
      go_wp2
      go_meet
      exact ⟨rfl, p, rfl, hp, HF⟩
    | true =>
      have hx : ((s.data.toList.drop p).head? = some 101 ∨ (s.data.toList.drop p).head? = some 69) := of_decide_eq_true hb.symm
      have h0 : p < s.size := by
        rcases Nat.lt_or_ge p s.size with h | h
        · exact h
        · rw [hd_end s p (by omega)] at hx; rcases hx with hx | hx <;> cases hx
      have he0 := @expo_0 _ hx
      have he1 := @expo_e _ hx
      rw [tail_at] at he0 he1
      have HE0 := Lib.hid he0
      have HE1 := Lib.hid he1
      clear he0 he1 hx hb
      obtain ⟨q, hq⟩ : ∃ q, q = p + 1 := ⟨_, rfl⟩
      have hqz : (p : Int) + 1 = (q : Int) := by omega
      have hqs : q ≤ s.size := by omega
      rw [← hq] at HE0 HE1
      clear hq
      go_upto_region 16 with fail
      go_cut [87] (fun s87 wx => w = wx ∧ ∃ b : Bool, s87 = .bool b ∧ Hid (b = decide ((s.data.toList.drop q).head? = some 43 ∨ (s.data.toList.drop q).head? = some 45)))
      case first =>
        by_cases h0 : q < s.size
        · have hb := byte_eqb s[q] 43 43 rfl
          have hb2 := byte_eqb s[q] 45 45 rfl
          have hh := hd_at s q h0
          have t1 : decide ((q : Int) < (s.size : Int)) = true := decide_eq_true (by omega)
          by_cases h1 : s[q] = 43
          · rw [decide_eq_true h1] at hb
            go_wp2
            go_meet
            exact ⟨rfl, _, rfl, by unfold Hid; rw [hh, h1]; rfl⟩
          · rw [decide_eq_false h1] at hb
            go_wp2
            go_meet
            exact ⟨rfl, _, rfl, by unfold Hid; rw [hh]; simp [h1]⟩
        · have hh := hd_end s q h0
          have t1 : decide ((q : Int) < (s.size : Int)) = false := decide_eq_false (by omega)
          go_wp2
          go_meet
          exact ⟨rfl, _, rfl, by unfold Hid; rw [hh]; simp⟩
      case rest =>
      obtain ⟨rfl, b, rfl, HB⟩ := hcut
      go_upto_if 87 with fail
      go_cut [4] (fun s4 wx => w = wx ∧ ∃ r : Nat, s4 = .int .i64 (r : Int) ∧ r ≤ s.size ∧ Hid (Tk.sign (s.data.toList.drop q) = s.data.toList.drop r))
      case first =>
        have hb := HB.out
        clear HB HN HN2 HN3 HD HNP HM HDL HE0 HE1
        cases b with
        | false =>
          have hx : ¬ ((s.data.toList.drop q).head? = some 43 ∨ (s.data.toList.drop q).head? = some 45) := of_decide_eq_false hb.symm
          have HF := Lib.hid (@sign_no _ hx)
          clear hb hx
          go_wp2
          go_meet
          exact ⟨rfl, q, rfl, hqs, HF⟩
        | true =>
          have hx : ((s.data.toList.drop q).head? = some 43 ∨ (s.data.toList.drop q).head? = some 45) := of_decide_eq_true hb.symm
          have h0 : q < s.size := by
            rcases Nat.lt_or_ge q s.size with h | h
            · exact h
            · rw [hd_end s q (by omega)] at hx; rcases hx with hx | hx <;> cases hx
          have hf := @sign_yes _ hx
          rw [tail_at] at hf
          have HF := Lib.hid hf
          clear hb hx hf
          go_wp2
          go_meet
          exact ⟨rfl, q + 1, by go_num, h0, HF⟩
      case rest =>
      clear HB
      obtain ⟨rfl, r, rfl, hr, HS⟩ := hcut
      have HC := Lib.hid (fun (z : Int) W h => HD.out r z W h hr)
      have hdm := HDL.out r hr
      rw [HS.out] at HE0 HE1
      by_cases hm : Tk.digs (s.data.toList.drop r) = 0
      · have hn := HN.out.trans (HN2.out (HE0.out hm))
        rw [hm] at HC
        obtain rfl := hn
        clear HN HN2 HN3 hdm hm HE0 HE1 HS HD HNP HM HDL
        go_wp2_with (go_at_call 97; with_reducible refine (HC.out _ _ rfl).mono ?_; rintro e w1 ⟨rfl, rfl⟩)
        go_ret2
        exact ⟨rfl, rfl⟩
      · have hf1 := HE1.out hm
        rw [List.drop_drop] at hf1
        have HF := Lib.hid hf1
        generalize Tk.digs (s.data.toList.drop r) = m at *
        have t0 : ((m : Int) == 0) = false := beq_eq_false_iff_ne.2 (by omega)
        clear HN HN2 HN3 HE0 HE1 HS HD HNP HM HDL hf1
        go_wp2_with (go_at_call 97; with_reducible refine (HC.out _ _ rfl).mono ?_; rintro e w1 ⟨rfl, rfl⟩)
        go_meet
        exact ⟨rfl, r + m, by go_num, by omega, HF⟩
  case rest =>
  clear HB HN2 HD HDL
  obtain ⟨rfl, q, rfl, hq, HE⟩ := hcut
  have hn := HN.out.trans (HN3.out _ HE.out)
  clear HN HN3 HE
  by_cases h1 : q < s.size
  · have t1 : decide ((q : Int) < (s.size : Int)) = true := decide_eq_true (by omega)
    rw [if_pos (fun e => by have := congrArg List.length e; rw [List.length_drop, len_data] at this; simp at this; omega)] at hn
    obtain rfl := hn
    clear HM HNP
    go_wp2
    go_ret2
    exact ⟨rfl, rfl⟩
  have t1 : decide ((q : Int) < (s.size : Int)) = false := decide_eq_false (by omega)
  rw [if_neg (fun e => e (List.drop_eq_nil_of_le (by rw [len_data]; omega)))] at hn
  by_cases h2 : wh < s.size
  · have t2 : decide ((wh : Int) < (s.size : Int)) = true := decide_eq_true (by omega)
    rw [if_pos (fun e => by have := congrArg List.length e; rw [List.length_drop, len_data] at this; simp at this; omega)] at hn
    obtain rfl := hn
    clear HM HNP
    go_wp2
    go_ret2
    exact ⟨rfl, rfl⟩
  have t2 : decide ((wh : Int) < (s.size : Int)) = false := decide_eq_false (by omega)
  rw [if_neg (fun e => e (List.drop_eq_nil_of_le (by rw [len_data]; omega)))] at hn
  by_cases h3 : s.data.toList = [45, 48]
  · rw [if_pos h3] at hn
    have hm := HM.out
    rw [decide_eq_true h3] at hm
    obtain rfl := hn
    clear HM HNP h3
    go_wp2
    go_ret2
    exact ⟨rfl, rfl⟩
  · rw [if_neg h3] at hn
    have hm := HM.out
    rw [decide_eq_false h3] at hm
    rw [← hn] at HNP
    clear HM h3 hn
    obtain ⟨n1, n2⟩ := N
    go_wp2_with (go_at_call 21; with_reducible refine (HNP.out _).mono ?_; rintro e w1 ⟨rfl, rfl⟩)
    go_ret2
    exact ⟨rfl, rfl⟩

end Go.Proofs.Ythbpkmmnoeikoaa
