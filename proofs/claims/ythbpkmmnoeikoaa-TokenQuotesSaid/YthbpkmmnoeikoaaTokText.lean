/-
  token.text: what stands in quotes. Condition: the text is shorter than 2^32 bytes.
-/
import Derived.Test.YthbpkmmnoeikoaaTokEsc
import Derived.Test.YthbpkmmnoeikoaaConv
import Derived.Test.YthbpkmmnoeikoaaShelfB
namespace Go.Proofs.Ythbpkmmnoeikoaa
open Go Go.RowKit
set_option linter.unusedVariables false
set_option linter.unusedSimpArgs false

theorem put_le (c : Nat) : (Uf.put c).length ≤ 4 := by
  rw [Uf.put_len]
  unfold Uf.long
  split
  · omega
  · split
    · omega
    · split
      · omega
      · split <;> omega
theorem uesc_len {l : List UInt8} {p : List UInt8 × Nat} (h : Tk.uesc l = some p) : 6 ≤ p.2 ∧ p.2 ≤ l.length ∧ p.1.length ≤ 4 := by
  unfold Tk.uesc at h
  cases hu : Tk.unit l with
  | none => rw [hu] at h; cases h
  | some c =>
    rw [hu] at h
    dsimp only at h
    have hb := (unit_bound hu).2
    split at h
    · cases h; exact ⟨Nat.le_refl _, hb, put_le _⟩
    · split at h
      · cases h
      · cases hd : Tk.unit (l.drop 6) with
        | none => rw [hd] at h; cases h
        | some d =>
          rw [hd] at h
          dsimp only at h
          have hb2 := (unit_bound hd).2
          rw [List.length_drop] at hb2
          split at h
          · have h' := Option.some.inj h
            have hpp := put_le (65536 + (c - 55296) * 1024 + (d - 56320))
            generalize Uf.put (65536 + (c - 55296) * 1024 + (d - 56320)) = pp at *
            rw [← h']
            exact ⟨by dsimp only; omega, by dsimp only; omega, hpp⟩
          · cases h
theorem esc_len {l : List UInt8} {p : List UInt8 × Nat} (h : Tk.esc l = some p) : 1 ≤ p.2 ∧ p.2 ≤ l.length ∧ p.1.length ≤ p.2 := by
  unfold Tk.esc at h
  split at h
  · have := uesc_len h; omega
  · rename_i c t ht
    split at h
    · cases h
      refine ⟨by dsimp only; omega, ?_, by simp⟩
      have : l.tail.length = t.length + 1 := by rw [ht]; rfl
      rw [List.length_tail] at this
      dsimp only; omega
    · have := uesc_len h; omega
theorem ext_take (s : ByteArray) (k n : Nat) : (s.extract k (k + n)).data.toList = (s.data.toList.drop k).take n := by
  rw [ByteArray.data_extract, Array.toList_extract, List.extract_eq_take_drop]
  congr 1; omega

/-- a place within a text for one behind k bytes -/
def ab (k : Nat) (p : List UInt8 × Nat × Bool) : List UInt8 × Nat × Bool := (p.1, k + p.2.1, p.2.2)
theorem ab_sh (k n : Nat) (p : List UInt8 × Nat × Bool) : ab k (Tk.sh n p) = ab (k + n) p := by
  unfold ab Tk.sh
  dsimp only
  rw [show k + (p.2.1 + n) = k + n + p.2.1 by omega]
def txtV (p : List UInt8 × Nat × Bool) : Value := .tuple #[str p.1, .int .i64 (p.2.1 : Int), .bool p.2.2]

def TxR (s : ByteArray) (G : List UInt8 × Nat × Bool) (w0 : World) (a : Value) (w : World) : Prop :=
  ∃ (k f : Nat) (acc : List UInt8), k ≤ s.size ∧ s.size - k < f + 1 ∧ acc.length ≤ k ∧ a = .int .i64 (k : Int) ∧ IsB w0.heap.size w0.heap.size acc w ∧ Below w0.heap.size w0 w ∧ Hid (G = ab k (Tk.txt (f + 1) (s.data.toList.drop k) acc))

set_option maxRecDepth 100000 in
set_option maxHeartbeats 4000000 in
theorem text_any (s : ByteArray) (a0 : Nat) (w : World) (hs : s.size ≤ 4294967280) (ha : a0 ≤ s.size) :
    Calls Try.prog 67 #[.string s, .int .i64 (a0 : Int)] w fun e w' => e = .returned (txtV (ab a0 (Tk.txt (s.size - a0 + 1) (s.data.toList.drop a0) []))) ∧ Below w.heap.size w w' := by
  obtain ⟨G, hG⟩ : ∃ G, G = ab a0 (Tk.txt (s.size - a0 + 1) (s.data.toList.drop a0) []) := ⟨_, rfl⟩
  rw [← hG]
  have HG := Lib.hid hG
  clear hG
  have hcv := cv_run s
  go_enter Try.func67, Try.ntmps67
  go_wp2
  go_loopw [1] (TxR s G w) (fun i _ => s.size - (intOf i).toNat)
  case atStart => exact ⟨a0, s.size - a0, [], ha, by omega, by simp, by go_num, IsB.new w, (Below.refl _ w).alloc (Nat.le_refl _) _, HG⟩
  case round =>
    obtain ⟨k, f, acc, hk, hf, hacc, rfl, hB, hbl, HX⟩ := hrel
    clear HG
    have hsz := hbl.size
    by_cases hlt : k < s.size
    · have tl : decide ((k : Int) < (s.size : Int)) = true := decide_eq_true (by omega)
      have hd : s.data.toList.drop k = s[k] :: s.data.toList.drop (k + 1) := (List.getElem_cons_drop (by rw [len_data]; exact hlt)).symm
      have hx := HX.out
      rw [hd, Tk.txt] at hx
      have hsx := (s[k]).toNat_lt
      by_cases h34 : s[k] = 34
      · rw [if_pos h34] at hx
        have t34 : ((s[k].toNat : Int) != 34) = false := by rw [h34]; rfl
        have tke : ((k : Int) == (s.size : Int)) = false := beq_eq_false_iff_ne.2 (by omega)
        obtain rfl := hx
        clear HX hd h34
        go_wp2_with (go_at_call 78; refine (bstr_any _ _ _ _ hB).mono ?_; rintro e w4 ⟨rfl, hb4⟩)
        exact bodyPost_ret (v := txtV (ab k (acc, 1, true))) (by simp [results, Try.results67, go_sem, txtV, ab, bs]) rfl ⟨rfl, hbl.trans (hb4.mono (by omega))⟩
      · rw [if_neg h34] at hx
        have t34 : ((s[k].toNat : Int) != 34) = true := by rw [bne_iff_ne]; intro e; exact h34 (UInt8.toNat_inj.1 (by have : (34 : UInt8).toNat = 34 := rfl; omega))
        by_cases h92 : s[k] = 92
        · rw [if_pos h92, ← hd] at hx
          have t92 : ((s[k].toNat : Int) == 92) = true := by rw [h92]; rfl
          have HE := Lib.hid (fun W => escape_any (s.extract k s.size) W (by rw [ByteArray.size_extract]; omega))
          rw [drop_ext] at HE
          cases he : Tk.esc (s.data.toList.drop k) with
          | none =>
            rw [he] at HE hx
            obtain rfl := hx
            unfold escV at HE
            clear HX hd h34 h92 he
            go_wp2_with (go_at_call 91; refine (HE.out _).mono ?_; rintro e w2 ⟨rfl, hb2⟩)
            exact bodyPost_ret (v := txtV (ab k ([], 0, false))) (by simp [results, Try.results67, go_sem, txtV, ab, bs]) rfl ⟨rfl, hbl.trans (hb2.mono hsz)⟩
          | some p =>
            rw [he] at HE hx
            obtain ⟨e1, e2, e3⟩ := esc_len he
            rw [List.length_drop, len_data] at e2
            dsimp only at hx
            rw [ab_sh, List.drop_drop] at hx
            unfold escV at HE
            have te : ((p.2 : Int) == 0) = false := beq_eq_false_iff_ne.2 (by omega)
            have HY : Hid (G = ab (k + p.2) (Tk.txt (f - 1 + 1) (s.data.toList.drop (k + p.2)) (acc ++ p.1))) := by
              unfold Hid; rw [Nat.sub_add_cancel (by omega)]; exact hx
            have zp : (bs p.1).size = p.1.length := bs_size _
            clear HX hd h34 h92 he hx
            go_wp2_with (first
              | (go_at_call 91; refine (HE.out _).mono ?_; rintro e w2 ⟨rfl, hb2⟩; have hB2 := hB.below hb2)
              | (go_at_call 77; refine (ws_any _ _ _ (bs p.1) _ hB2 (by omega) (by omega)).mono ?_; rintro e w3 ⟨rfl, hB3, hb3⟩))
            go_roundw
            case rel => exact ⟨k + p.2, f - 1, acc ++ p.1, by omega, by omega, by simp; omega, by go_num, hB3, (hbl.trans (hb2.mono hsz)).trans hb3, HY⟩
            case measure => simp [intOf]; omega
        · rw [if_neg h92, ← hd] at hx
          have t92 : ((s[k].toNat : Int) == 92) = false := beq_eq_false_iff_ne.2 (fun e => h92 (UInt8.toNat_inj.1 (by have : (92 : UInt8).toNat = 92 := rfl; omega)))
          have hga := get_any _ s.data.toList k _ (cv_bytes s wr (by unfold maxLen; omega)) (by rw [len_data]; omega) (by rw [len_data]; omega)
          have hb1 := cv_below s wr
          cases hg : Uf.get (s.data.toList.drop k) with
          | none =>
            rw [hg] at hga hx
            obtain rfl := hx
            unfold getV at hga
            clear HX hd h34 h92 hg
            go_wp2_with (go_at_call 92; refine hga.mono ?_; rintro e w2 ⟨rfl, rfl⟩)
            exact bodyPost_ret (v := txtV (ab k ([], 0, false))) (by simp [results, Try.results67, go_sem, txtV, ab, bs]) rfl ⟨rfl, hbl.trans (hb1.mono hsz)⟩
          | some p =>
            rw [hg] at hga hx
            obtain ⟨g1, g2, g3, g4⟩ := get_len hg
            rw [List.length_drop, len_data] at g3
            dsimp only at hx
            unfold getV at hga
            by_cases h32 : s[k].toNat < 32
            · rw [if_pos h32] at hx
              have t32 : decide ((s[k].toNat : Int) < 32) = true := decide_eq_true (by omega)
              obtain rfl := hx
              clear HX hd h34 h92 hg
              go_wp2_with (go_at_call 92; refine hga.mono ?_; rintro e w2 ⟨rfl, rfl⟩)
              exact bodyPost_ret (v := txtV (ab k ([], 0, false))) (by simp [results, Try.results67, go_sem, txtV, ab, bs]) rfl ⟨rfl, hbl.trans (hb1.mono hsz)⟩
            · rw [if_neg h32, ab_sh, List.drop_drop] at hx
              have t32 : decide ((s[k].toNat : Int) < 32) = false := decide_eq_false (by omega)
              have HY : Hid (G = ab (k + p.2) (Tk.txt (f - 1 + 1) (s.data.toList.drop (k + p.2)) (acc ++ (s.extract k (k + p.2)).data.toList))) := by
                unfold Hid; rw [Nat.sub_add_cancel (by omega), ext_take]; exact hx
              have zp : (s.extract k (k + p.2)).size = p.2 := by rw [ByteArray.size_extract]; omega
              have i1 : (k : Int) ≤ (k : Int) + (p.2 : Int) := by omega
              have i2 : (k : Int) + (p.2 : Int) ≤ (s.size : Int) := by omega
              have hBc := hB.below hb1
              clear HX hd h34 h92 hg hx
              go_wp2_with (first
                | (go_at_call 92; refine hga.mono ?_; rintro e w2 ⟨rfl, rfl⟩)
                | (go_at_call 77; refine (ws_any _ _ _ (s.extract k (k + p.2)) _ hBc (by omega) (by omega)).mono ?_; rintro e w3 ⟨rfl, hB3, hb3⟩))
              go_roundw
              case rel => exact ⟨k + p.2, f - 1, acc ++ (s.extract k (k + p.2)).data.toList, by omega, by omega, by rw [List.length_append, len_data]; omega, by go_num, hB3, (hbl.trans (hb1.mono hsz)).trans hb3, HY⟩
              case measure => simp [intOf]; omega
    · have tl : decide ((k : Int) < (s.size : Int)) = false := decide_eq_false (by omega)
      have tke : ((k : Int) == (s.size : Int)) = true := beq_iff_eq.2 (by omega)
      have hd : s.data.toList.drop k = [] := List.drop_eq_nil_of_le (by rw [len_data]; omega)
      have hx := HX.out
      rw [hd, Tk.txt] at hx
      obtain rfl := hx
      clear HX hd
      go_wp2_with fail
      exact bodyPost_ret (v := txtV (ab k ([], 0, false))) (by simp [results, Try.results67, go_sem, txtV, ab, bs]) rfl ⟨rfl, hbl⟩

end Go.Proofs.Ythbpkmmnoeikoaa
