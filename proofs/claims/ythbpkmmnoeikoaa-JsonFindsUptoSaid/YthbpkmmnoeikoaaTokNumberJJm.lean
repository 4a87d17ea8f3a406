/-
  token.number: what a row says (Tk.number). Condition: the row is shorter than 2^32 bytes.
-/
import Derived.Test.YthbpkmmnoeikoaaTokNumberWJm
namespace Go.Proofs.Ythbpkmmnoeikoaa
open Go Go.RowKit
set_option linter.unusedVariables false
set_option linter.unusedSimpArgs false

theorem take_ne {l : List UInt8} (h : Tk.digs l ≠ 0) : l.take (Tk.digs l) ≠ [] := by
  intro e
  have := congrArg List.length e
  have h2 : Tk.digs l ≤ l.length := Tk.span_le _ _
  rw [List.length_take] at this
  simp only [List.length_nil] at this
  omega
theorem take_is {l : List UInt8} (h : Tk.digs l = 0) : l.take (Tk.digs l) = [] := by rw [h]; rfl
theorem sz_take (l : List UInt8) : (bs (l.take (Tk.digs l))).size = Tk.digs l := by
  have h2 : Tk.digs l ≤ l.length := Tk.span_le _ _
  rw [bs_size, List.length_take]; omega
theorem head_take {l : List UInt8} (h : Tk.digs l ≠ 0) : (l.take (Tk.digs l)).head? = l.head? := by
  cases l with
  | nil => rfl
  | cons c l =>
    obtain ⟨n, hn⟩ := Nat.exists_eq_succ_of_ne_zero h
    rw [hn]; rfl
theorem byte_is {l : List UInt8} (c : UInt8) (n : Int) (hc : (c.toNat : Int) = n) (h : l.head? = some c) : ∃ h : 0 < (bs l).size, (((bs l)[0].toNat : Int) == n) = true := by
  have hx : 0 < (bs l).size := by rw [bs_size]; cases l with | nil => cases h | cons a l => simp
  refine ⟨hx, ?_⟩
  rw [bs_hd c h hx, hc]; simp
theorem byte_isnt {l : List UInt8} (c : UInt8) (n : Int) (hc : (c.toNat : Int) = n) (hl : l ≠ []) (h : l.head? ≠ some c) : ∃ h : 0 < (bs l).size, (((bs l)[0].toNat : Int) == n) = false := by
  cases l with
  | nil => exact absurd rfl hl
  | cons a l =>
    refine ⟨by rw [bs_size]; simp, ?_⟩
    rw [bs_hd a rfl (by rw [bs_size]; simp), beq_eq_false_iff_ne]
    intro e
    exact h (by rw [show a = c from UInt8.toNat_inj.1 (by omega)]; rfl)
theorem e_is {l : List UInt8} (h : l.head? = some 101 ∨ l.head? = some 69) : ∃ h : 0 < (bs l).size, (bits .or .u8 ((bs l)[0].toNat : Int) 32 == 101) = true := by
  cases l with
  | nil => simp at h
  | cons a l =>
    refine ⟨by rw [bs_size]; simp, ?_⟩
    rw [bs_hd a rfl (by rw [bs_size]; simp), or32]
    have : a.toNat ||| 32 = 101 := (e_or a.toNat a.toNat_lt).2 (by
      simp at h
      rcases h with rfl | rfl
      · exact .inl rfl
      · exact .inr rfl)
    rw [this]; rfl
theorem e_isnt {l : List UInt8} (hl : l ≠ []) (h : ¬ (l.head? = some 101 ∨ l.head? = some 69)) : ∃ h : 0 < (bs l).size, (bits .or .u8 ((bs l)[0].toNat : Int) 32 == 101) = false := by
  cases l with
  | nil => exact absurd rfl hl
  | cons a l =>
    refine ⟨by rw [bs_size]; simp, ?_⟩
    rw [bs_hd a rfl (by rw [bs_size]; simp), or32]
    have : ¬ (a.toNat ||| 32 = 101) := fun e => h (by
      rcases (e_or a.toNat a.toNat_lt).1 e with h1 | h1
      · exact .inl (by rw [show a = 101 from UInt8.toNat_inj.1 h1]; rfl)
      · exact .inr (by rw [show a = 69 from UInt8.toNat_inj.1 h1]; rfl))
    rw [beq_eq_false_iff_ne]; intro e; exact this (by omega)
theorem tail_ext {l : List UInt8} : (bs l).extract 1 (bs l).size = bs l.tail := by
  rw [bs_size, bs_extn _ _ _ (Nat.le_refl _), List.drop_one]
theorem digs_ext {l : List UInt8} : (bs l).extract (Tk.digs l) l.length = bs (l.drop (Tk.digs l)) := bs_extn _ _ _ (Nat.le_refl _)
theorem len_tail {l : List UInt8} (h : l ≠ []) : 1 ≤ l.length := List.length_pos_iff.2 h
theorem sign_no {l : List UInt8} (h : ¬ (l.head? = some 43 ∨ l.head? = some 45)) : Tk.sign l = l := by unfold Tk.sign; rw [if_neg h]
theorem sign_yes {l : List UInt8} (h : l.head? = some 43 ∨ l.head? = some 45) : Tk.sign l = l.tail := by unfold Tk.sign; rw [if_pos h]
theorem ext1 {l : List UInt8} : (bs l).extract 1 l.length = bs l.tail := by rw [bs_extn _ _ _ (Nat.le_refl _), List.drop_one]
theorem ne_head {l : List UInt8} {c : UInt8} (h : l.head? = some c) : l ≠ [] := by rintro rfl; cases h
theorem ne_head2 {l : List UInt8} {c d : UInt8} (h : l.head? = some c ∨ l.head? = some d) : l ≠ [] := by rintro rfl; simp at h

theorem number_any (s : ByteArray) (w : World) (hs : s.size ≤ 4294967280) :
    Calls Try.prog 70 #[.string s] w fun e w' => e = .returned (.tuple #[.int .i64 (Tk.number s.data.toList).1, .int .i64 (Tk.number s.data.toList).2]) ∧ w' = w := by
  have HT := Lib.hid (fun W => trim_any s W)
  have hbl : (Tk.body s.data.toList).length ≤ s.size := by
    rw [← len_data]; unfold Tk.body; split
    · rw [List.length_tail]; omega
    · omega
  have hrun : ∀ l : List UInt8, l.length ≤ s.size → Hid (∀ W, Calls Try.prog 64 #[str l, .func (.func 68) #[] #[]] W fun e w' => e = .returned (str (l.take (Tk.digs l))) ∧ w' = W) := fun l hl W => digits_run l W (by omega)
  have hnum := @number_err1 s.data.toList
  have hnone := @number_none s.data.toList
  have hnone2 := @number_none2 s.data.toList
  have hsome := @number_some s.data.toList
  have hdl : ∀ l : List UInt8, Tk.digs l ≤ l.length := fun l => Tk.span_le _ _
  have HNP := Lib.hid (fun W => parse_any s W (by omega))
  have hm0 : (s.toList == [45, 48]) = decide (s.data.toList = [45, 48]) := by rw [ByteArray.toList_eq, Bool.eq_iff_iff]; simp
  generalize Tk.body s.data.toList = B at *
  have z : ∀ l : List UInt8, (bs l).size = l.length := bs_size

  by_cases h0 : Tk.digs B = 0
  · rw [hnum (.inl h0)]; exact nl_a s w HT (hrun B hbl) (z B) (sz_take B) (hdl B) digs_ext (bs_is (take_is h0))
  by_cases h1 : 1 < Tk.digs B ∧ B.head? = some 48
  · rw [hnum (.inr h1)]; exact nl_b s w HT (hrun B hbl) (z B) (sz_take B) (hdl B) digs_ext (bs_isnt (take_ne h0)) h1.1 (byte_is 48 48 rfl (by rw [head_take h0]; exact h1.2))
  have hv : ¬ (Tk.digs B = 0 ∨ (1 < Tk.digs B ∧ B.head? = some 48)) := fun h => h.elim h0 h1
  have hvar : Tk.digs B = 1 ∨ (1 < Tk.digs B ∧ ∃ h : 0 < (bs (B.take (Tk.digs B))).size, (((bs (B.take (Tk.digs B)))[0].toNat : Int) == 48) = false) := by
    by_cases h2 : Tk.digs B = 1
    · exact .inl h2
    · exact .inr ⟨by omega, byte_isnt 48 48 rfl (take_ne h0) (by rw [head_take h0]; exact fun e => h1 ⟨by omega, e⟩)⟩
  have hR : (B.drop (Tk.digs B)).length ≤ s.size := by rw [List.length_drop]; omega
  have hC := Lib.hid (fun W => cut_any (B.drop (Tk.digs B)) W)
  generalize hRR : B.drop (Tk.digs B) = R at *
  by_cases hd : R.head? = some 46
  · rw [if_pos hd, decide_eq_true hd] at hC
    have hM : R.tail.length ≤ s.size := by rw [List.length_tail]; omega
    by_cases hm : Tk.digs R.tail = 0
    · rw [hnone hv (frac_dot0 hd hm)]; exact nl_c s w HT (hrun B hbl) (z B) (sz_take B) (hdl B) (hRR ▸ digs_ext) (bs_isnt (take_ne h0)) hvar (bs_isnt (ne_head hd)) hC (hrun R.tail hM) (bs_is (take_is hm))
    have hf := frac_dot hd hm
    have hr : (R.tail.drop (Tk.digs R.tail)).length ≤ s.size := by rw [List.length_drop]; omega
    generalize hrr : R.tail.drop (Tk.digs R.tail) = r at *
    by_cases hre : r = []
    · rw [hsome hv hf (expo_no (by rw [hre]; simp))]; rw [if_neg (fun h => h hre), if_pos (ne_head hd)]; exact nl_dE s w HT (hrun B hbl) (z B) (sz_take B) (hdl B) (hRR ▸ digs_ext) (bs_isnt (take_ne h0)) hvar (bs_isnt (ne_head hd)) hC (hrun R.tail hM) (bs_isnt (take_ne hm)) (sz_take _) (z _) (hdl _) (hrr ▸ digs_ext) (bs_is hre)
    by_cases he : r.head? = some 101 ∨ r.head? = some 69
    · have hT : r.tail.length ≤ s.size := by rw [List.length_tail]; omega
      generalize hTT : r.tail = T at *
      by_cases hte : T = []
      · skip
        have hS : Tk.sign r.tail = T := by rw [hTT]; exact sign_no (by rw [hte]; simp)
        by_cases hk : Tk.digs T = 0
        · rw [hnone2 hv hf (expo_0 he (by rw [hS]; exact hk))]; exact nl_d0K s w HT (hrun B hbl) (z B) (sz_take B) (hdl B) (hRR ▸ digs_ext) (bs_isnt (take_ne h0)) hvar (bs_isnt (ne_head hd)) hC (hrun R.tail hM) (bs_isnt (take_ne hm)) (sz_take _) (z _) (hdl _) (hrr ▸ digs_ext) (bs_isnt hre) (e_is he) (z r) (len_tail hre) (hTT ▸ ext1) (bs_is hte) (hrun T hT) (z T) (bs_is (take_is hk))
        have hq := expo_e he (by rw [hS]; exact hk)
        rw [hS] at hq
        by_cases hqe : T.drop (Tk.digs T) = []
        · rw [hsome hv hf hq, if_neg (fun h => h hqe), if_pos (ne_head hd)]; exact nl_d0P s w HT (hrun B hbl) (z B) (sz_take B) (hdl B) (hRR ▸ digs_ext) (bs_isnt (take_ne h0)) hvar (bs_isnt (ne_head hd)) hC (hrun R.tail hM) (bs_isnt (take_ne hm)) (sz_take _) (z _) (hdl _) (hrr ▸ digs_ext) (bs_isnt hre) (e_is he) (z r) (len_tail hre) (hTT ▸ ext1) (bs_is hte) (hrun T hT) (z T) (bs_isnt (take_ne hk)) (sz_take _) (hdl _) digs_ext (bs_is hqe)
        · rw [hsome hv hf hq, if_pos hqe]; exact nl_d0X s w HT (hrun B hbl) (z B) (sz_take B) (hdl B) (hRR ▸ digs_ext) (bs_isnt (take_ne h0)) hvar (bs_isnt (ne_head hd)) hC (hrun R.tail hM) (bs_isnt (take_ne hm)) (sz_take _) (z _) (hdl _) (hrr ▸ digs_ext) (bs_isnt hre) (e_is he) (z r) (len_tail hre) (hTT ▸ ext1) (bs_is hte) (hrun T hT) (z T) (bs_isnt (take_ne hk)) (sz_take _) (hdl _) digs_ext (bs_isnt hqe)
      have hTt : T.tail.length ≤ s.size := by rw [List.length_tail]; omega
      by_cases h43 : T.head? = some 43
      · skip
        have hS : Tk.sign r.tail = T.tail := by rw [hTT]; exact sign_yes (.inl h43)
        by_cases hk : Tk.digs T.tail = 0
        · rw [hnone2 hv hf (expo_0 he (by rw [hS]; exact hk))]; exact nl_dpK s w HT (hrun B hbl) (z B) (sz_take B) (hdl B) (hRR ▸ digs_ext) (bs_isnt (take_ne h0)) hvar (bs_isnt (ne_head hd)) hC (hrun R.tail hM) (bs_isnt (take_ne hm)) (sz_take _) (z _) (hdl _) (hrr ▸ digs_ext) (bs_isnt hre) (e_is he) (z r) (len_tail hre) (hTT ▸ ext1) (bs_isnt hte) (z T) (len_tail hte) (byte_is 43 43 rfl h43) ext1 (hrun T.tail hTt) (z T.tail) (bs_is (take_is hk))
        have hq := expo_e he (by rw [hS]; exact hk)
        rw [hS] at hq
        by_cases hqe : T.tail.drop (Tk.digs T.tail) = []
        · rw [hsome hv hf hq, if_neg (fun h => h hqe), if_pos (ne_head hd)]; exact nl_dpP s w HT (hrun B hbl) (z B) (sz_take B) (hdl B) (hRR ▸ digs_ext) (bs_isnt (take_ne h0)) hvar (bs_isnt (ne_head hd)) hC (hrun R.tail hM) (bs_isnt (take_ne hm)) (sz_take _) (z _) (hdl _) (hrr ▸ digs_ext) (bs_isnt hre) (e_is he) (z r) (len_tail hre) (hTT ▸ ext1) (bs_isnt hte) (z T) (len_tail hte) (byte_is 43 43 rfl h43) ext1 (hrun T.tail hTt) (z T.tail) (bs_isnt (take_ne hk)) (sz_take _) (hdl _) digs_ext (bs_is hqe)
        · rw [hsome hv hf hq, if_pos hqe]; exact nl_dpX s w HT (hrun B hbl) (z B) (sz_take B) (hdl B) (hRR ▸ digs_ext) (bs_isnt (take_ne h0)) hvar (bs_isnt (ne_head hd)) hC (hrun R.tail hM) (bs_isnt (take_ne hm)) (sz_take _) (z _) (hdl _) (hrr ▸ digs_ext) (bs_isnt hre) (e_is he) (z r) (len_tail hre) (hTT ▸ ext1) (bs_isnt hte) (z T) (len_tail hte) (byte_is 43 43 rfl h43) ext1 (hrun T.tail hTt) (z T.tail) (bs_isnt (take_ne hk)) (sz_take _) (hdl _) digs_ext (bs_isnt hqe)
      obtain ⟨hx43, n43⟩ := byte_isnt 43 43 rfl hte h43
      by_cases h45 : T.head? = some 45
      · obtain ⟨hx45, n45⟩ := byte_is 45 45 rfl h45
        have hS : Tk.sign r.tail = T.tail := by rw [hTT]; exact sign_yes (.inr h45)
        by_cases hk : Tk.digs T.tail = 0
        · rw [hnone2 hv hf (expo_0 he (by rw [hS]; exact hk))]; exact nl_dmK s w HT (hrun B hbl) (z B) (sz_take B) (hdl B) (hRR ▸ digs_ext) (bs_isnt (take_ne h0)) hvar (bs_isnt (ne_head hd)) hC (hrun R.tail hM) (bs_isnt (take_ne hm)) (sz_take _) (z _) (hdl _) (hrr ▸ digs_ext) (bs_isnt hre) (e_is he) (z r) (len_tail hre) (hTT ▸ ext1) (bs_isnt hte) (z T) (len_tail hte) ⟨hx43, n43, n45⟩ ext1 (hrun T.tail hTt) (z T.tail) (bs_is (take_is hk))
        have hq := expo_e he (by rw [hS]; exact hk)
        rw [hS] at hq
        by_cases hqe : T.tail.drop (Tk.digs T.tail) = []
        · rw [hsome hv hf hq, if_neg (fun h => h hqe), if_pos (ne_head hd)]; exact nl_dmP s w HT (hrun B hbl) (z B) (sz_take B) (hdl B) (hRR ▸ digs_ext) (bs_isnt (take_ne h0)) hvar (bs_isnt (ne_head hd)) hC (hrun R.tail hM) (bs_isnt (take_ne hm)) (sz_take _) (z _) (hdl _) (hrr ▸ digs_ext) (bs_isnt hre) (e_is he) (z r) (len_tail hre) (hTT ▸ ext1) (bs_isnt hte) (z T) (len_tail hte) ⟨hx43, n43, n45⟩ ext1 (hrun T.tail hTt) (z T.tail) (bs_isnt (take_ne hk)) (sz_take _) (hdl _) digs_ext (bs_is hqe)
        · rw [hsome hv hf hq, if_pos hqe]; exact nl_dmX s w HT (hrun B hbl) (z B) (sz_take B) (hdl B) (hRR ▸ digs_ext) (bs_isnt (take_ne h0)) hvar (bs_isnt (ne_head hd)) hC (hrun R.tail hM) (bs_isnt (take_ne hm)) (sz_take _) (z _) (hdl _) (hrr ▸ digs_ext) (bs_isnt hre) (e_is he) (z r) (len_tail hre) (hTT ▸ ext1) (bs_isnt hte) (z T) (len_tail hte) ⟨hx43, n43, n45⟩ ext1 (hrun T.tail hTt) (z T.tail) (bs_isnt (take_ne hk)) (sz_take _) (hdl _) digs_ext (bs_isnt hqe)
      · obtain ⟨hx45, n45⟩ := byte_isnt 45 45 rfl hte h45
        have hS : Tk.sign r.tail = T := by rw [hTT]; exact sign_no (fun h => h.elim h43 h45)
        by_cases hk : Tk.digs T = 0
        · rw [hnone2 hv hf (expo_0 he (by rw [hS]; exact hk))]; exact nl_dnK s w HT (hrun B hbl) (z B) (sz_take B) (hdl B) (hRR ▸ digs_ext) (bs_isnt (take_ne h0)) hvar (bs_isnt (ne_head hd)) hC (hrun R.tail hM) (bs_isnt (take_ne hm)) (sz_take _) (z _) (hdl _) (hrr ▸ digs_ext) (bs_isnt hre) (e_is he) (z r) (len_tail hre) (hTT ▸ ext1) (bs_isnt hte) (z T) (len_tail hte) ⟨hx43, n43, n45⟩ (hrun T hT) (bs_is (take_is hk))
        have hq := expo_e he (by rw [hS]; exact hk)
        rw [hS] at hq
        by_cases hqe : T.drop (Tk.digs T) = []
        · rw [hsome hv hf hq, if_neg (fun h => h hqe), if_pos (ne_head hd)]; exact nl_dnP s w HT (hrun B hbl) (z B) (sz_take B) (hdl B) (hRR ▸ digs_ext) (bs_isnt (take_ne h0)) hvar (bs_isnt (ne_head hd)) hC (hrun R.tail hM) (bs_isnt (take_ne hm)) (sz_take _) (z _) (hdl _) (hrr ▸ digs_ext) (bs_isnt hre) (e_is he) (z r) (len_tail hre) (hTT ▸ ext1) (bs_isnt hte) (z T) (len_tail hte) ⟨hx43, n43, n45⟩ (hrun T hT) (bs_isnt (take_ne hk)) (sz_take _) (hdl _) digs_ext (bs_is hqe)
        · rw [hsome hv hf hq, if_pos hqe]; exact nl_dnX s w HT (hrun B hbl) (z B) (sz_take B) (hdl B) (hRR ▸ digs_ext) (bs_isnt (take_ne h0)) hvar (bs_isnt (ne_head hd)) hC (hrun R.tail hM) (bs_isnt (take_ne hm)) (sz_take _) (z _) (hdl _) (hrr ▸ digs_ext) (bs_isnt hre) (e_is he) (z r) (len_tail hre) (hTT ▸ ext1) (bs_isnt hte) (z T) (len_tail hte) ⟨hx43, n43, n45⟩ (hrun T hT) (bs_isnt (take_ne hk)) (sz_take _) (hdl _) digs_ext (bs_isnt hqe)
    · rw [hsome hv hf (expo_no he), if_pos hre]; exact nl_dN s w HT (hrun B hbl) (z B) (sz_take B) (hdl B) (hRR ▸ digs_ext) (bs_isnt (take_ne h0)) hvar (bs_isnt (ne_head hd)) hC (hrun R.tail hM) (bs_isnt (take_ne hm)) (sz_take _) (z _) (hdl _) (hrr ▸ digs_ext) (bs_isnt hre) (e_isnt hre he)
  · rw [if_neg hd, decide_eq_false hd] at hC
    have hf := frac_no hd
    by_cases hre : R = []
    · rw [hsome hv hf (expo_no (by rw [hre]; simp)), if_neg (fun h => h hre), if_neg (fun h => h hre)]
      by_cases hm1 : s.data.toList = [45, 48]
      · rw [if_pos hm1]; exact nl_z s w HT (hrun B hbl) (z B) (sz_take B) (hdl B) (hRR ▸ digs_ext) (bs_isnt (take_ne h0)) hvar hC (bs_is hre) (by rw [hm0]; exact decide_eq_true hm1)
      · rw [if_neg hm1]; exact nl_y s w HT (hrun B hbl) (z B) (sz_take B) (hdl B) (hRR ▸ digs_ext) (bs_isnt (take_ne h0)) hvar hC (bs_is hre) (by rw [hm0]; exact decide_eq_false hm1) HNP
    by_cases he : R.head? = some 101 ∨ R.head? = some 69
    · have hT : R.tail.length ≤ s.size := by rw [List.length_tail]; omega
      generalize hTT : R.tail = T at *
      by_cases hte : T = []
      · skip
        have hS : Tk.sign R.tail = T := by rw [hTT]; exact sign_no (by rw [hte]; simp)
        by_cases hk : Tk.digs T = 0
        · rw [hnone2 hv hf (expo_0 he (by rw [hS]; exact hk))]; exact nl_w0K s w HT (hrun B hbl) (z B) (sz_take B) (hdl B) (hRR ▸ digs_ext) (bs_isnt (take_ne h0)) hvar hC (bs_isnt hre) (e_is he) (z R) (len_tail hre) (hTT ▸ ext1) (bs_is hte) (hrun T hT) (z T) (bs_is (take_is hk))
        have hq := expo_e he (by rw [hS]; exact hk)
        rw [hS] at hq
        by_cases hqe : T.drop (Tk.digs T) = []
        · rw [hsome hv hf hq, if_neg (fun h => h hqe), if_pos (ne_head2 he)]; exact nl_w0P s w HT (hrun B hbl) (z B) (sz_take B) (hdl B) (hRR ▸ digs_ext) (bs_isnt (take_ne h0)) hvar hC (bs_isnt hre) (e_is he) (z R) (len_tail hre) (hTT ▸ ext1) (bs_is hte) (hrun T hT) (z T) (bs_isnt (take_ne hk)) (sz_take _) (hdl _) digs_ext (bs_is hqe)
        · rw [hsome hv hf hq, if_pos hqe]; exact nl_w0X s w HT (hrun B hbl) (z B) (sz_take B) (hdl B) (hRR ▸ digs_ext) (bs_isnt (take_ne h0)) hvar hC (bs_isnt hre) (e_is he) (z R) (len_tail hre) (hTT ▸ ext1) (bs_is hte) (hrun T hT) (z T) (bs_isnt (take_ne hk)) (sz_take _) (hdl _) digs_ext (bs_isnt hqe)
      have hTt : T.tail.length ≤ s.size := by rw [List.length_tail]; omega
      by_cases h43 : T.head? = some 43
      · skip
        have hS : Tk.sign R.tail = T.tail := by rw [hTT]; exact sign_yes (.inl h43)
        by_cases hk : Tk.digs T.tail = 0
        · rw [hnone2 hv hf (expo_0 he (by rw [hS]; exact hk))]; exact nl_wpK s w HT (hrun B hbl) (z B) (sz_take B) (hdl B) (hRR ▸ digs_ext) (bs_isnt (take_ne h0)) hvar hC (bs_isnt hre) (e_is he) (z R) (len_tail hre) (hTT ▸ ext1) (bs_isnt hte) (z T) (len_tail hte) (byte_is 43 43 rfl h43) ext1 (hrun T.tail hTt) (z T.tail) (bs_is (take_is hk))
        have hq := expo_e he (by rw [hS]; exact hk)
        rw [hS] at hq
        by_cases hqe : T.tail.drop (Tk.digs T.tail) = []
        · rw [hsome hv hf hq, if_neg (fun h => h hqe), if_pos (ne_head2 he)]; exact nl_wpP s w HT (hrun B hbl) (z B) (sz_take B) (hdl B) (hRR ▸ digs_ext) (bs_isnt (take_ne h0)) hvar hC (bs_isnt hre) (e_is he) (z R) (len_tail hre) (hTT ▸ ext1) (bs_isnt hte) (z T) (len_tail hte) (byte_is 43 43 rfl h43) ext1 (hrun T.tail hTt) (z T.tail) (bs_isnt (take_ne hk)) (sz_take _) (hdl _) digs_ext (bs_is hqe)
        · rw [hsome hv hf hq, if_pos hqe]; exact nl_wpX s w HT (hrun B hbl) (z B) (sz_take B) (hdl B) (hRR ▸ digs_ext) (bs_isnt (take_ne h0)) hvar hC (bs_isnt hre) (e_is he) (z R) (len_tail hre) (hTT ▸ ext1) (bs_isnt hte) (z T) (len_tail hte) (byte_is 43 43 rfl h43) ext1 (hrun T.tail hTt) (z T.tail) (bs_isnt (take_ne hk)) (sz_take _) (hdl _) digs_ext (bs_isnt hqe)
      obtain ⟨hx43, n43⟩ := byte_isnt 43 43 rfl hte h43
      by_cases h45 : T.head? = some 45
      · obtain ⟨hx45, n45⟩ := byte_is 45 45 rfl h45
        have hS : Tk.sign R.tail = T.tail := by rw [hTT]; exact sign_yes (.inr h45)
        by_cases hk : Tk.digs T.tail = 0
        · rw [hnone2 hv hf (expo_0 he (by rw [hS]; exact hk))]; exact nl_wmK s w HT (hrun B hbl) (z B) (sz_take B) (hdl B) (hRR ▸ digs_ext) (bs_isnt (take_ne h0)) hvar hC (bs_isnt hre) (e_is he) (z R) (len_tail hre) (hTT ▸ ext1) (bs_isnt hte) (z T) (len_tail hte) ⟨hx43, n43, n45⟩ ext1 (hrun T.tail hTt) (z T.tail) (bs_is (take_is hk))
        have hq := expo_e he (by rw [hS]; exact hk)
        rw [hS] at hq
        by_cases hqe : T.tail.drop (Tk.digs T.tail) = []
        · rw [hsome hv hf hq, if_neg (fun h => h hqe), if_pos (ne_head2 he)]; exact nl_wmP s w HT (hrun B hbl) (z B) (sz_take B) (hdl B) (hRR ▸ digs_ext) (bs_isnt (take_ne h0)) hvar hC (bs_isnt hre) (e_is he) (z R) (len_tail hre) (hTT ▸ ext1) (bs_isnt hte) (z T) (len_tail hte) ⟨hx43, n43, n45⟩ ext1 (hrun T.tail hTt) (z T.tail) (bs_isnt (take_ne hk)) (sz_take _) (hdl _) digs_ext (bs_is hqe)
        · rw [hsome hv hf hq, if_pos hqe]; exact nl_wmX s w HT (hrun B hbl) (z B) (sz_take B) (hdl B) (hRR ▸ digs_ext) (bs_isnt (take_ne h0)) hvar hC (bs_isnt hre) (e_is he) (z R) (len_tail hre) (hTT ▸ ext1) (bs_isnt hte) (z T) (len_tail hte) ⟨hx43, n43, n45⟩ ext1 (hrun T.tail hTt) (z T.tail) (bs_isnt (take_ne hk)) (sz_take _) (hdl _) digs_ext (bs_isnt hqe)
      · obtain ⟨hx45, n45⟩ := byte_isnt 45 45 rfl hte h45
        have hS : Tk.sign R.tail = T := by rw [hTT]; exact sign_no (fun h => h.elim h43 h45)
        by_cases hk : Tk.digs T = 0
        · rw [hnone2 hv hf (expo_0 he (by rw [hS]; exact hk))]; exact nl_wnK s w HT (hrun B hbl) (z B) (sz_take B) (hdl B) (hRR ▸ digs_ext) (bs_isnt (take_ne h0)) hvar hC (bs_isnt hre) (e_is he) (z R) (len_tail hre) (hTT ▸ ext1) (bs_isnt hte) (z T) (len_tail hte) ⟨hx43, n43, n45⟩ (hrun T hT) (bs_is (take_is hk))
        have hq := expo_e he (by rw [hS]; exact hk)
        rw [hS] at hq
        by_cases hqe : T.drop (Tk.digs T) = []
        · rw [hsome hv hf hq, if_neg (fun h => h hqe), if_pos (ne_head2 he)]; exact nl_wnP s w HT (hrun B hbl) (z B) (sz_take B) (hdl B) (hRR ▸ digs_ext) (bs_isnt (take_ne h0)) hvar hC (bs_isnt hre) (e_is he) (z R) (len_tail hre) (hTT ▸ ext1) (bs_isnt hte) (z T) (len_tail hte) ⟨hx43, n43, n45⟩ (hrun T hT) (bs_isnt (take_ne hk)) (sz_take _) (hdl _) digs_ext (bs_is hqe)
        · rw [hsome hv hf hq, if_pos hqe]; exact nl_wnX s w HT (hrun B hbl) (z B) (sz_take B) (hdl B) (hRR ▸ digs_ext) (bs_isnt (take_ne h0)) hvar hC (bs_isnt hre) (e_is he) (z R) (len_tail hre) (hTT ▸ ext1) (bs_isnt hte) (z T) (len_tail hte) ⟨hx43, n43, n45⟩ (hrun T hT) (bs_isnt (take_ne hk)) (sz_take _) (hdl _) digs_ext (bs_isnt hqe)
    · rw [hsome hv hf (expo_no he), if_pos hre]; exact nl_wN s w HT (hrun B hbl) (z B) (sz_take B) (hdl B) (hRR ▸ digs_ext) (bs_isnt (take_ne h0)) hvar hC (bs_isnt hre) (e_isnt hre he)

end Go.Proofs.Ythbpkmmnoeikoaa
