/-
  The reference's Field and Print: a field's text, rows' text. Condition: the texts are shorter than 2^32 bytes.
-/
import Derived.Test.YtnljlbhknbjinaaCsvGreat
namespace Go.Proofs.Ytnljlbhknbjinaa
open Go.RowKit
set_option linter.unusedVariables false
set_option linter.unusedSimpArgs false

/-- at a byte's head: are all bytes plain so far, and the text with its quotes doubled -/
def RfR (s : ByteArray) (w0 : World) (p t i : Value) (w : World) : Prop :=
  ∃ k : Nat, k ≤ s.size ∧ i = .int .i64 (k : Int) ∧ t = str (Cs.dbl (s.data.toList.take k)) ∧ p = .bool (decide (0 < s.size) && !((s.data.toList.take k).any Cs.stop)) ∧ Below w0.heap.size w0 w

theorem stop_eq (c : UInt8) : Cs.stop c = (((((c.toNat : Int) == 44) || ((c.toNat : Int) == 34)) || ((c.toNat : Int) == 13)) || ((c.toNat : Int) == 10)) := by
  have h : ∀ d : UInt8, ∀ n : Nat, d.toNat = n → (c == d) = ((c.toNat : Int) == (n : Int)) := by
    intro d n hd
    by_cases hc : c = d
    · rw [eq_byte d hd hc]; simp [hc]
    · rw [ne_byte d hd hc]; simp [hc]
  unfold Cs.stop
  rw [h 44 44 rfl, h 34 34 rfl, h 13 13 rfl, h 10 10 rfl]; rfl

set_option maxRecDepth 100000 in
set_option maxHeartbeats 4000000 in
theorem rfield_any (s : ByteArray) (w : World) (hs : s.size ≤ 4294967280) :
    Calls Try.prog 17 #[.string s] w fun e w' => e = .returned (str (Cs.field s.data.toList)) ∧ Below w.heap.size w w' := by
  go_enter Try.func17, Try.ntmps17
  go_wp2
  go_loopw [3, 4, 5] (RfR s w) (fun _ _ i _ => s.size - (intOf i).toNat)
  case atStart => exact ⟨0, Nat.zero_le _, by go_num, rfl, by simp, Below.refl _ _⟩
  case round =>
    obtain ⟨k, hk, rfl, rfl, rfl, hbl⟩ := hrel
    have hll := dbl_len (s.data.toList.take k)
    rw [List.length_take, len_data] at hll
    have z1 : (bs (Cs.dbl (s.data.toList.take k))).size = (Cs.dbl (s.data.toList.take k)).length := bs_size _
    by_cases hlt : k < s.size
    · have htk : s.data.toList.take (k + 1) = s.data.toList.take k ++ [s[k]] := by
        rw [List.take_add_one, List.getElem?_eq_getElem (by rw [len_data]; exact hlt)]; rfl
      have hd : Cs.dbl (s.data.toList.take (k + 1)) = Cs.dbl (s.data.toList.take k) ++ Cs.dbl [s[k]] := by rw [htk, dbl_append]
      rw [dbl_one] at hd
      have hany : (s.data.toList.take (k + 1)).any Cs.stop = ((s.data.toList.take k).any Cs.stop || Cs.stop s[k]) := by rw [htk]; simp
      have hee := ext_one s k hlt
      have z2 : (s.extract k (k + 1)).size = 1 := by rw [hee]; rfl
      have h11 : (k : Int) + 1 ≤ (s.size : Int) := by omega
      by_cases hst : Cs.stop s[k] = true
      · rw [hst, Bool.or_true] at hany
        by_cases hq : s[k] = 34
        · have tq : ((s[k].toNat : Int) == 34) = true := eq_byte 34 rfl hq
          have t44 : ((s[k].toNat : Int) == 44) = false := ne_byte 44 rfl (by rw [hq]; decide)
          rw [if_pos hq] at hd
          have hv : str (Cs.dbl (s.data.toList.take (k + 1))) = .string ((bs (Cs.dbl (s.data.toList.take k)) ++ (⟨#[34]⟩ : ByteArray)) ++ s.extract k (k + 1)) := by
            rw [hd, hee, hq, show (⟨#[34]⟩ : ByteArray) = bs [34] from rfl, bs_append, bs_append]; simp
          have z3 : (bs (Cs.dbl (s.data.toList.take k)) ++ (⟨#[34]⟩ : ByteArray)).size = (Cs.dbl (s.data.toList.take k)).length + 1 := by rw [ByteArray.size_append, z1]; rfl
          have HV := Lib.hid hv
          have HA := Lib.hid hany
          clear hv hany hd htk hee hq hst
          generalize Cs.dbl (s.data.toList.take k) = dk at *
          go_wp2
          go_roundw
          case rel => exact ⟨k + 1, by omega, by go_num, HV.out.symm, by rw [HA.out]; simp, hbl⟩
          case measure => simp [intOf]; omega
        · have tq : ((s[k].toNat : Int) == 34) = false := ne_byte 34 rfl hq
          rw [if_neg hq] at hd
          have hv : str (Cs.dbl (s.data.toList.take (k + 1))) = .string (bs (Cs.dbl (s.data.toList.take k)) ++ s.extract k (k + 1)) := by
            rw [hd, hee, bs_append]
          have hs3 : s[k] = 44 ∨ s[k] = 13 ∨ s[k] = 10 := by
            rcases Cs.stop_cases hst with h | h | h | h
            · exact .inl h
            · exact absurd h hq
            · exact .inr (.inl h)
            · exact .inr (.inr h)
          have HV := Lib.hid hv
          have HA := Lib.hid hany
          clear hv hany hd htk hee hq hst
          generalize Cs.dbl (s.data.toList.take k) = dk at *
          rcases hs3 with h | h | h
          · have t44 : ((s[k].toNat : Int) == 44) = true := eq_byte 44 rfl h
            clear h
            go_wp2
            go_roundw
            case rel => exact ⟨k + 1, by omega, by go_num, HV.out.symm, by rw [HA.out]; simp, hbl⟩
            case measure => simp [intOf]; omega
          · have t44 : ((s[k].toNat : Int) == 44) = false := ne_byte 44 rfl (by rw [h]; decide)
            have t13 : ((s[k].toNat : Int) == 13) = true := eq_byte 13 rfl h
            clear h
            go_wp2
            go_roundw
            case rel => exact ⟨k + 1, by omega, by go_num, HV.out.symm, by rw [HA.out]; simp, hbl⟩
            case measure => simp [intOf]; omega
          · have t44 : ((s[k].toNat : Int) == 44) = false := ne_byte 44 rfl (by rw [h]; decide)
            have t13 : ((s[k].toNat : Int) == 13) = false := ne_byte 13 rfl (by rw [h]; decide)
            have t10 : ((s[k].toNat : Int) == 10) = true := eq_byte 10 rfl h
            clear h
            go_wp2
            go_roundw
            case rel => exact ⟨k + 1, by omega, by go_num, HV.out.symm, by rw [HA.out]; simp, hbl⟩
            case measure => simp [intOf]; omega
      · have hst2 : Cs.stop s[k] = false := by simpa using hst
        rw [hst2, Bool.or_false] at hany
        have hse := stop_eq s[k]
        rw [hst2] at hse
        have hse2 := hse.symm
        simp only [Bool.or_eq_false_iff] at hse2
        obtain ⟨⟨⟨t44, tq⟩, t13⟩, t10⟩ := hse2
        have hq : s[k] ≠ 34 := fun e => by rw [e] at hst2; exact absurd hst2 (by decide)
        rw [if_neg hq] at hd
        have hv : str (Cs.dbl (s.data.toList.take (k + 1))) = .string (bs (Cs.dbl (s.data.toList.take k)) ++ s.extract k (k + 1)) := by
          rw [hd, hee, bs_append]
        have HV := Lib.hid hv
        have HA := Lib.hid hany
        clear hv hany hd htk hee hq hst hst2 hse
        generalize Cs.dbl (s.data.toList.take k) = dk at *
        go_wp2
        go_roundw
        case rel => exact ⟨k + 1, by omega, by go_num, HV.out.symm, by rw [HA.out], hbl⟩
        case measure => simp [intOf]; omega
    · obtain rfl : k = s.size := by omega
      have hfull : s.data.toList.take s.size = s.data.toList := List.take_of_length_le (by rw [len_data]; omega)
      rw [hfull] at hll z1 ⊢
      clear hfull
      by_cases h0 : 0 < s.size ∧ s.data.toList.any Cs.stop = false
      · obtain ⟨h0, hp⟩ := h0
        have hf : str (Cs.field s.data.toList) = .string s := by
          unfold Cs.field
          rw [if_pos ⟨fun e => by have := len_data s; rw [e] at this; simp at this; omega, hp⟩]; rfl
        have tp : (decide (0 < s.size) && !(s.data.toList.any Cs.stop)) = true := by rw [hp]; simp [h0]
        rw [tp]
        have HF := Lib.hid hf
        clear hf hp tp
        go_wp2
        go_ret
        exact ⟨by rw [HF.out]; rfl, hbl⟩
      · have hf : str (Cs.field s.data.toList) = .string ((⟨#[34]⟩ : ByteArray) ++ bs (Cs.dbl s.data.toList) ++ (⟨#[34]⟩ : ByteArray)) := by
          unfold Cs.field
          rw [if_neg]
          · rw [show (⟨#[34]⟩ : ByteArray) = bs [34] from rfl, bs_append, bs_append]; simp
          rintro ⟨h1, h2⟩
          exact h0 ⟨by have := List.length_pos_iff.2 h1; rw [len_data] at this; exact this, h2⟩
        have tp : (decide (0 < s.size) && !(s.data.toList.any Cs.stop)) = false := by
          by_cases h : 0 < s.size
          · cases hx : s.data.toList.any Cs.stop with
            | true => simp
            | false => exact absurd ⟨h, hx⟩ h0
          · simp [h]
        rw [tp]
        have z4 : ((⟨#[34]⟩ : ByteArray) ++ bs (Cs.dbl s.data.toList)).size = (Cs.dbl s.data.toList).length + 1 := by rw [ByteArray.size_append, z1]; simp [ByteArray.size]; omega
        have HF := Lib.hid hf
        clear hf tp h0
        go_wp2
        go_ret
        exact ⟨by rw [HF.out]; rfl, hbl⟩

/-! ### rows -/
def RtR (rs : List (List Cs.F)) (w0 : World) (t i : Value) (w : World) : Prop :=
  ∃ k : Nat, k ≤ rs.length ∧ i = .int .i64 (k : Int) ∧ t = str (Cs.rowsT (rs.take k)) ∧ Below w0.heap.size w0 w ∧ Hid (Cs.bad (rs.take k) = false)
def RuR (rs : List (List Cs.F)) (k : Nat) (r : List Cs.F) (w0 : World) (t i : Value) (w : World) : Prop :=
  ∃ m : Nat, m ≤ r.length ∧ i = .int .i64 (m : Int) ∧ t = str (Cs.rowsT (rs.take k) ++ Cs.fields (r.take m)) ∧ Below w0.heap.size w0 w

set_option maxRecDepth 100000 in
set_option maxHeartbeats 4000000 in
theorem rprint_any (v : Value) (rs : List (List Cs.F)) (w : World) (hv : RowsV w v rs) (hlen : (Cs.rowsT rs).length ≤ 4294967000) (hn : rs.length ≤ 4294967000) :
    Calls Try.prog 15 #[v] w fun e w' => e = .returned (.tuple #[str (Cs.print rs).1, .int .i64 ((Cs.print rs).2 : Int)]) ∧ Below w.heap.size w w' := by
  obtain ⟨p, cap, rfl, hrd⟩ := hv.form
  go_enter Try.func15, Try.ntmps15
  go_wp2_with fail
  go_loopw [4, 5] (RtR rs w) (fun _ i _ => rs.length - (intOf i).toNat)
  case atStart => exact ⟨0, Nat.zero_le _, by go_num, by rw [List.take_zero]; rfl, Below.refl _ w, by unfold Hid; rw [List.take_zero]; rfl⟩
  case round =>
    obtain ⟨k, hk, rfl, rfl, hbl, HB⟩ := hrel
    have z1 : (bs (Cs.rowsT (rs.take k))).size = (Cs.rowsT (rs.take k)).length := bs_size _
    by_cases hlt : k < rs.length
    · obtain ⟨b, o, x, rfl, hcx, hsx⟩ := hrd k hlt
      obtain ⟨q, cq, rfl, hst⟩ := hsx.form
      have hcx1 := cell_below hbl hcx
      have htk := rowsT_take hlt
      have hln := rowsT_mono rs (k + 1)
      rw [htk] at hln
      have hbk := bad_take hlt
      have hmem : rs[k] ∈ rs := List.getElem_mem hlt
      generalize rs[k] = r at *
      have HTK := Lib.hid htk
      have HBK := Lib.hid hbk
      clear htk hbk hsx hrd
      simp only [List.length_append, List.length_cons, List.length_nil] at hln
      have i1 : (0 : Int) ≤ (k : Int) := by omega
      have i2 : (k : Int) < (rs.length : Int) := by omega
      by_cases hr : r = []
      · have t0 : ((r.length : Int) == 0) = true := by rw [hr]; rfl
        have hp : Cs.print rs = ([], 1) := by
          unfold Cs.print
          rw [if_pos]
          unfold Cs.bad
          rw [List.any_eq_true]
          exact ⟨r, hmem, by rw [hr]; rfl⟩
        have HP := Lib.hid hp
        clear hp hr
        go_wp2_with fail
        go_ret2
        exact ⟨by rw [HP.out]; rfl, hbl⟩
      · have hrl := List.length_pos_iff.2 hr
        have t0 : ((r.length : Int) == 0) = false := beq_eq_false_iff_ne.2 (by omega)
        have hre : r.isEmpty = false := by cases r with | nil => exact absurd rfl hr | cons _ _ => rfl
        have HRE := Lib.hid hre
        have hrn : r.length ≤ 4294967000 := by have := fields_len2 r; omega
        clear hr hre
        go_wp2_with fail
        go_loopw [4, 6] (RuR rs k r w) (fun _ i _ => r.length - (intOf i).toNat)
        case atStart => exact ⟨0, Nat.zero_le _, by go_num, by rw [List.take_zero]; simp [Cs.fields], hbl⟩
        case round =>
          obtain ⟨m, hm, rfl, rfl, hbl1⟩ := hrel
          have hfm := fields_mono r m
          have hcx2 := cell_below hbl1 hcx
          have z2 : (bs (Cs.rowsT (rs.take k) ++ Cs.fields (r.take m))).size = (Cs.rowsT (rs.take k)).length + (Cs.fields (r.take m)).length := by rw [bs_size, List.length_append]
          by_cases hlm : m < r.length
          · obtain ⟨b2, o2, rfl, hcs0⟩ := hst m hlm
            have hcs := cell_below hbl1 hcs0
            clear hcs0
            have hfs := fields_take hlm
            have hfm1 := fields_mono r (m + 1)
            have hfl := field_len r[m]
            generalize r[m] = f at *
            have hft := fun W => rfield_any (bs f) W (by rw [bs_size]; rw [hfs] at hfm1; split at hfm1 <;> (try simp only [List.length_append, List.length_cons] at hfm1) <;> omega)
            rw [bs_data] at hft
            have z3 : (bs (Cs.field f)).size = (Cs.field f).length := bs_size _
            have i4 : (0 : Int) ≤ (m : Int) := by omega
            have i5 : (m : Int) < (r.length : Int) := by omega
            by_cases hm0 : m = 0
            · subst hm0
              rw [if_pos rfl] at hfs
              rw [Nat.add_zero] at hcs
              rw [List.take_zero, show Cs.fields [] = [] from rfl, List.append_nil] at *
              have hv2 : str (Cs.rowsT (rs.take k) ++ Cs.fields (r.take (0 + 1))) = .string (bs (Cs.rowsT (rs.take k)) ++ bs (Cs.field f)) := by rw [hfs, bs_append]
              have HV := Lib.hid hv2
              rw [hfs] at hfm1
              clear hfs hv2
              have HFT := Lib.hid hft
              clear hft
              go_wp2_with (go_at_call 17; refine (HFT.out _).mono ?_; rintro e w2 ⟨rfl, hb2⟩)
              go_roundw
              case rel => exact ⟨1, by omega, by go_num, HV.out.symm, hbl1.trans (hb2.mono hbl1.size)⟩
              case measure => simp [intOf]; omega
            · rw [if_neg hm0] at hfs
              have t1 : (decide ((m : Int) > 0)) = true := decide_eq_true (by omega)
              have hv2 : str (Cs.rowsT (rs.take k) ++ Cs.fields (r.take (m + 1))) = .string (bs (Cs.rowsT (rs.take k) ++ Cs.fields (r.take m)) ++ (⟨#[44]⟩ : ByteArray) ++ bs (Cs.field f)) := by
                rw [hfs, show (⟨#[44]⟩ : ByteArray) = bs [44] from rfl, bs_append, bs_append]; simp
              have z4 : (bs (Cs.rowsT (rs.take k) ++ Cs.fields (r.take m)) ++ (⟨#[44]⟩ : ByteArray)).size = (Cs.rowsT (rs.take k)).length + (Cs.fields (r.take m)).length + 1 := by rw [ByteArray.size_append, z2]; rfl
              have HV := Lib.hid hv2
              rw [hfs] at hfm1
              simp only [List.length_append, List.length_cons] at hfm1
              clear hfs hv2
              have HFT := Lib.hid hft
              clear hft
              go_wp2_with (go_at_call 17; refine (HFT.out _).mono ?_; rintro e w2 ⟨rfl, hb2⟩)
              go_roundw
              case rel => exact ⟨m + 1, by omega, by go_num, HV.out.symm, hbl1.trans (hb2.mono hbl1.size)⟩
              case measure => simp [intOf]; omega
          · obtain rfl : m = r.length := by omega
            rw [List.take_length] at *
            have hv2 : str (Cs.rowsT (rs.take (k + 1))) = .string (bs (Cs.rowsT (rs.take k) ++ Cs.fields r) ++ (⟨#[13, 10]⟩ : ByteArray)) := by
              rw [HTK.out, show (⟨#[13, 10]⟩ : ByteArray) = bs [13, 10] from rfl, bs_append]; simp
            have HV := Lib.hid hv2
            clear hv2
            go_wp2_with fail
            go_roundw
            case rel =>
              refine ⟨k + 1, by omega, by go_num, HV.out.symm, hbl1, ?_⟩
              unfold Hid; rw [HBK.out, HB.out, HRE.out]; rfl
            case measure => simp [intOf]; omega
    · obtain rfl : k = rs.length := by omega
      have hp : Cs.print rs = (Cs.rowsT rs, 0) := by
        unfold Cs.print
        have := HB.out
        rw [List.take_length] at this
        rw [if_neg (by rw [this]; simp)]
      rw [List.take_length]
      have HP := Lib.hid hp
      clear hp
      go_wp2_with fail
      go_ret2
      exact ⟨by rw [HP.out]; rfl, hbl⟩

end Go.Proofs.Ytnljlbhknbjinaa
