/-
  csv.Field, csv.Print: a field's text; rows' text. Condition: the texts are shorter than 2^32 - 15 bytes.
-/
import Derived.Test.YtnljlbhknbjinaaCsvField
import Derived.Test.YtnljlbhknbjinaaNest
namespace Go.Proofs.Ytnljlbhknbjinaa
open Go.RowKit
set_option linter.unusedVariables false
set_option linter.unusedSimpArgs false

theorem plain_any : ∀ l : Cs.F, (decide (Cs.plain l < l.length)) = l.any Cs.stop
  | [] => rfl
  | c :: l => by
    have ih := plain_any l
    unfold Cs.plain
    by_cases h : Cs.stop c = true
    · simp [h]
    · simp only [h, Bool.false_eq_true, if_false, List.length_cons, List.any_cons, Bool.false_or]
      rw [← ih]; simp
theorem dbl_append : ∀ (a b : Cs.F), Cs.dbl (a ++ b) = Cs.dbl a ++ Cs.dbl b
  | [], b => rfl
  | c :: a, b => by
    have ih := dbl_append a b
    simp only [List.cons_append, Cs.dbl, ih]
    split <;> simp
theorem dbl_len : ∀ l : Cs.F, (Cs.dbl l).length ≤ 2 * l.length
  | [] => by simp [Cs.dbl]
  | c :: l => by have := dbl_len l; unfold Cs.dbl; split <;> simp <;> omega
theorem dbl_one (c : UInt8) : Cs.dbl [c] = if c = 34 then [34, 34] else [c] := by
  unfold Cs.dbl; split <;> simp [Cs.dbl]

theorem has_any (s : ByteArray) (w : World) (hs : s.size ≤ 4294967280) (b : Bool) (hb : Hid (s.data.toList.any Cs.stop = b)) :
    Calls Try.prog 22 #[.string s, .string ⟨#[44, 34, 13, 10]⟩] w fun e w' => e = .returned (.bool b) ∧ Below w.heap.size w w' := by
  have hia : ∀ w, Calls Try.prog 27 #[.string s, .string ⟨#[44, 34, 13, 10]⟩] w fun e w' => e = .returned (.int .i64 (if b then (Cs.plain s.data.toList : Int) else -1)) ∧ Below w.heap.size w w' := fun w => by
    refine (indexAny_any s w hs).mono ?_
    rintro e w1 ⟨rfl, h⟩
    refine ⟨ret_i ?_, h⟩
    rw [indexAny_plain, ← hb.out, ← plain_any]; simp
  have hge : (decide ((if b then (Cs.plain s.data.toList : Int) else -1) ≥ 0)) = b := by cases b <;> simp
  generalize (if b then (Cs.plain s.data.toList : Int) else -1) = q at *
  have HI := Lib.hid hia
  clear hia
  go_enter Try.func22, Try.ntmps22
  go_wp2_with (go_at_call 27; refine (HI.out _).mono ?_; rintro e w1 ⟨rfl, hb1⟩)
  go_ret
  exact ⟨rfl, hb1⟩

theorem put_any (B b : Nat) (l : Cs.F) (c : UInt8) (w : World) (h : IsB B b l w) (hl : l.length ≤ 70368744177000) :
    Calls Try.prog 23 #[.int .u8 (c.toNat : Int), .pointer (some ⟨b, 0, none⟩)] w fun e w' => (∃ v, e = .returned v) ∧ IsB B b (l ++ Cs.dbl [c]) w' ∧ Below B w w' := by
  rw [dbl_one]
  by_cases hc : c = 34
  · have t : ((c.toNat : Int) == 34) = true := by rw [hc]; rfl
    rw [if_pos hc]
    subst hc
    go_enter Try.func23, Try.ntmps23
    go_wp2_with fail
    refine (wb_any B b l 34 w h (by omega)).mono ?_
    rintro e w1 ⟨rfl, h1, hb1⟩
    go_wp2_with fail
    refine (wb_any B b (l ++ [34]) 34 w1 h1 (by simp; omega)).mono ?_
    rintro e w2 ⟨rfl, h2, hb2⟩
    go_wp2_with fail
    go_end0
    exact ⟨⟨_, rfl⟩, by simpa using h2, hb1.trans hb2⟩
  · rw [if_neg hc]
    have t : ((c.toNat : Int) == 34) = false := by
      rw [beq_eq_false_iff_ne]; intro e; exact hc (UInt8.toNat_inj.1 (by have : (34 : UInt8).toNat = 34 := rfl; omega))
    go_enter Try.func23, Try.ntmps23
    go_wp2_with fail
    refine (wb_any B b l c w h (by omega)).mono ?_
    rintro e w1 ⟨rfl, h1, hb1⟩
    go_wp2_with fail
    go_end0
    exact ⟨⟨_, rfl⟩, h1, hb1⟩

/-- at a round's head: what has been written -/
def FdR (s : ByteArray) (w0 : World) (i : Value) (w : World) : Prop :=
  ∃ k : Nat, k ≤ s.size ∧ i = .int .i64 (k : Int) ∧ IsB w0.heap.size w0.heap.size (34 :: Cs.dbl (s.data.toList.take k)) w ∧ Below w0.heap.size w0 w

set_option maxHeartbeats 2000000 in
theorem field_text (s : ByteArray) (w : World) (hs : s.size ≤ 4294967280) :
    Calls Try.prog 16 #[.string s] w fun e w' => e = .returned (str (Cs.field s.data.toList)) ∧ Below w.heap.size w w' := by
  by_cases h0 : 0 < s.size ∧ s.data.toList.any Cs.stop = false
  · obtain ⟨h0, hp⟩ := h0
    have hf : str (Cs.field s.data.toList) = .string s := by
      unfold Cs.field
      rw [if_pos ⟨fun e => by have := len_data s; rw [e] at this; simp at this; omega, hp⟩]; rfl
    rw [hf]
    have he := isEmpty_of s h0
    have HP := Lib.hid hp
    clear hp hf
    go_enter Try.func16, Try.ntmps16
    go_wp2_with (go_at_call 22; refine (has_any _ _ hs _ HP).mono ?_; rintro e w1 ⟨rfl, hb1⟩)
    go_ret
    exact ⟨rfl, hb1⟩
  · have hf : Cs.field s.data.toList = 34 :: (Cs.dbl s.data.toList ++ [34]) := by
      unfold Cs.field
      rw [if_neg]
      rintro ⟨h1, h2⟩
      exact h0 ⟨by have := List.length_pos_iff.2 h1; rw [len_data] at this; exact this, h2⟩
    rw [hf]
    have hin : ((s.toList.isEmpty = true) ∨ (s.toList.isEmpty = false ∧ s.data.toList.any Cs.stop = true)) := by
      by_cases h : s.size = 0
      · exact .inl (isEmpty_nil s h)
      · right
        refine ⟨isEmpty_of s (by omega), ?_⟩
        cases hx : s.data.toList.any Cs.stop with
        | true => rfl
        | false => exact absurd ⟨by omega, hx⟩ h0
    clear hf h0
    rcases hin with he | ⟨he, hp⟩
    · go_enter Try.func16, Try.ntmps16
      go_wp2_with (go_at_call 19; refine (wb_any w.heap.size w.heap.size [] 34 _ (IsB.new w) (by simp)).mono ?_; rintro e w1 ⟨rfl, h1, hb1⟩)
      go_loopw [18] (FdR s w) (fun i _ => s.size - (intOf i).toNat)
      case atStart => exact ⟨0, Nat.zero_le _, by go_num, by rw [List.take_zero]; exact h1, ((Below.refl _ _).alloc (Nat.le_refl _) _).trans hb1⟩
      case round =>
        obtain ⟨k, hk, rfl, hB, hbl⟩ := hrel
        have hll := dbl_len (s.data.toList.take k)
        rw [List.length_take, len_data] at hll
        by_cases hlt : k < s.size
        · have hu : ((s[k].toNat : Int)) = ((s[k] : UInt8).toNat : Int) := rfl
          have htk : 34 :: Cs.dbl (s.data.toList.take k) ++ Cs.dbl [s[k]] = 34 :: Cs.dbl (s.data.toList.take (k + 1)) := by
            have : s.data.toList.take (k + 1) = s.data.toList.take k ++ [s[k]] := by
              rw [List.take_add_one, List.getElem?_eq_getElem (by rw [len_data]; exact hlt)]; rfl
            rw [this, dbl_append]; rfl
          have HT := Lib.hid htk
          clear htk
          go_wp2_with (go_at_call 23; refine (put_any _ _ _ s[k] _ hB (by simp; omega)).mono ?_; rintro e w3 ⟨⟨_, rfl⟩, hB3, hb3⟩)
          go_roundw
          case rel => exact ⟨k + 1, by omega, by go_num, by rw [← HT.out]; exact hB3, hbl.trans hb3⟩
          case measure => simp [intOf]; omega
        · obtain rfl : k = s.size := by omega
          rw [List.take_of_length_le (by rw [len_data]; omega)] at hB hll
          go_wp2_with (first
            | (go_at_call 19; refine (wb_any _ _ _ 34 _ hB (by simp; omega)).mono ?_; rintro e w3 ⟨rfl, hB3, hb3⟩)
            | (go_at_call 21; refine (bstr_any _ _ _ _ hB3).mono ?_; rintro e w4 ⟨rfl, hb4⟩))
          go_ret
          exact ⟨rfl, (hbl.trans hb3).trans hb4⟩
    · have HP := Lib.hid hp
      clear hp
      go_enter Try.func16, Try.ntmps16
      go_wp2_with (first
        | (go_at_call 22; refine (has_any _ _ hs _ HP).mono ?_; rintro e w0 ⟨rfl, hb0⟩)
        | (go_at_call 19; refine (wb_any w0.heap.size w0.heap.size [] 34 _ (IsB.new w0) (by simp)).mono ?_; rintro e w1 ⟨rfl, h1, hb1⟩))
      go_loopw [18] (FdR s w0) (fun i _ => s.size - (intOf i).toNat)
      case atStart => exact ⟨0, Nat.zero_le _, by go_num, by rw [List.take_zero]; exact h1, ((Below.refl _ _).alloc (Nat.le_refl _) _).trans hb1⟩
      case round =>
        obtain ⟨k, hk, rfl, hB, hbl⟩ := hrel
        have hll := dbl_len (s.data.toList.take k)
        rw [List.length_take, len_data] at hll
        by_cases hlt : k < s.size
        · have hu : ((s[k].toNat : Int)) = ((s[k] : UInt8).toNat : Int) := rfl
          have htk : 34 :: Cs.dbl (s.data.toList.take k) ++ Cs.dbl [s[k]] = 34 :: Cs.dbl (s.data.toList.take (k + 1)) := by
            have : s.data.toList.take (k + 1) = s.data.toList.take k ++ [s[k]] := by
              rw [List.take_add_one, List.getElem?_eq_getElem (by rw [len_data]; exact hlt)]; rfl
            rw [this, dbl_append]; rfl
          have HT := Lib.hid htk
          clear htk
          go_wp2_with (go_at_call 23; refine (put_any _ _ _ s[k] _ hB (by simp; omega)).mono ?_; rintro e w3 ⟨⟨_, rfl⟩, hB3, hb3⟩)
          go_roundw
          case rel => exact ⟨k + 1, by omega, by go_num, by rw [← HT.out]; exact hB3, hbl.trans hb3⟩
          case measure => simp [intOf]; omega
        · obtain rfl : k = s.size := by omega
          rw [List.take_of_length_le (by rw [len_data]; omega)] at hB hll
          go_wp2_with (first
            | (go_at_call 19; refine (wb_any _ _ _ 34 _ hB (by simp; omega)).mono ?_; rintro e w3 ⟨rfl, hB3, hb3⟩)
            | (go_at_call 21; refine (bstr_any _ _ _ _ hB3).mono ?_; rintro e w4 ⟨rfl, hb4⟩))
          go_ret
          exact ⟨rfl, hb0.trans (((hbl.trans hb3).trans hb4).mono hb0.size)⟩

/-! ### rows -/
theorem fields_snoc : ∀ (l : List Cs.F) (s : Cs.F), Cs.fields (l ++ [s]) = if l = [] then Cs.field s else Cs.fields l ++ 44 :: Cs.field s
  | [], s => rfl
  | [a], s => by simp [Cs.fields]
  | a :: b :: l, s => by
    have ih := fields_snoc (b :: l) s
    simp only [List.cons_append] at ih ⊢
    rw [Cs.fields, ih]
    · simp [Cs.fields]
    · simp
theorem rowsT_take {rs : List (List Cs.F)} {k : Nat} (h : k < rs.length) : Cs.rowsT (rs.take (k + 1)) = Cs.rowsT (rs.take k) ++ (Cs.fields rs[k] ++ [13, 10]) := by
  rw [List.take_add_one, List.getElem?_eq_getElem h]; simp only [Option.toList_some, Cs.rowsT, Cs.rowT, List.map_append, List.flatten_append, List.map_cons, List.map_nil, List.flatten_cons, List.flatten_nil, List.append_nil]
theorem rowsT_mono : ∀ (rs : List (List Cs.F)) (k : Nat), (Cs.rowsT (rs.take k)).length ≤ (Cs.rowsT rs).length
  | [], _ => by simp
  | r :: rs, 0 => by simp [Cs.rowsT]
  | r :: rs, k + 1 => by have := rowsT_mono rs k; simp [Cs.rowsT] at this ⊢; exact this
theorem fields_mono : ∀ (r : List Cs.F) (k : Nat), (Cs.fields (r.take k)).length ≤ (Cs.fields r).length
  | [], _ => by simp
  | [a], k => by
    cases k with
    | zero => simp [Cs.fields]
    | succ k => simp
  | a :: b :: r, 0 => by simp [Cs.fields]
  | a :: b :: r, 1 => by simp [Cs.fields]
  | a :: b :: r, k + 2 => by
    have := fields_mono (b :: r) (k + 1)
    simp [Cs.fields] at this ⊢; exact this
theorem field_len (s : Cs.F) : s.length ≤ (Cs.field s).length := by
  have : ∀ l : Cs.F, l.length ≤ (Cs.dbl l).length := by
    intro l
    induction l with
    | nil => simp
    | cons c l ih => unfold Cs.dbl; split <;> simp <;> omega
  unfold Cs.field
  split
  · exact Nat.le_refl _
  · have := this s; simp; omega

theorem bad_take {rs : List (List Cs.F)} {k : Nat} (h : k < rs.length) : Cs.bad (rs.take (k + 1)) = (Cs.bad (rs.take k) || rs[k].isEmpty) := by
  rw [List.take_add_one, List.getElem?_eq_getElem h]; simp only [Option.toList_some, Cs.bad, List.any_append, List.any_cons, List.any_nil, Bool.or_false]
theorem fields_take {r : List Cs.F} {m : Nat} (h : m < r.length) : Cs.fields (r.take (m + 1)) = if m = 0 then Cs.field r[m] else Cs.fields (r.take m) ++ 44 :: Cs.field r[m] := by
  rw [List.take_add_one, List.getElem?_eq_getElem h, Option.toList_some, fields_snoc]
  by_cases hm : m = 0
  · subst hm; simp
  · rw [if_neg (fun e => by have h2 := congrArg List.length e; rw [List.length_take] at h2; simp only [List.length_nil] at h2; omega), if_neg hm]
theorem fields_len2 : ∀ l : List Cs.F, l.length ≤ (Cs.fields l).length
  | [] => by simp
  | [a] => by have := Cs.field_pos a; simp [Cs.fields]; omega
  | a :: b :: l => by have := fields_len2 (b :: l); simp [Cs.fields] at this ⊢; omega

/-- at a row's head -/
def PtR (rs : List (List Cs.F)) (w0 : World) (i : Value) (w : World) : Prop :=
  ∃ k : Nat, k ≤ rs.length ∧ i = .int .i64 (k : Int) ∧ IsB w0.heap.size w0.heap.size (Cs.rowsT (rs.take k)) w ∧ Below w0.heap.size w0 w ∧ Hid (Cs.bad (rs.take k) = false)
/-- at a field's head -/
def PfR (rs : List (List Cs.F)) (k : Nat) (r : List Cs.F) (w0 : World) (i : Value) (w : World) : Prop :=
  ∃ m : Nat, m ≤ r.length ∧ i = .int .i64 (m : Int) ∧ IsB w0.heap.size w0.heap.size (Cs.rowsT (rs.take k) ++ Cs.fields (r.take m)) w ∧ Below w0.heap.size w0 w

set_option maxHeartbeats 2000000 in
theorem print_rows (v : Value) (rs : List (List Cs.F)) (w : World) (hv : RowsV w v rs) (hlen : (Cs.rowsT rs).length ≤ 4294967000) (hn : rs.length ≤ 4294967000) :
    Calls Try.prog 14 #[v] w fun e w' => e = .returned (.tuple #[str (Cs.print rs).1, .int .i64 ((Cs.print rs).2 : Int)]) ∧ Below w.heap.size w w' := by
  obtain ⟨p, cap, rfl, hrd⟩ := hv.form
  go_enter Try.func14, Try.ntmps14
  go_wp2_with fail
  go_loopw [11] (PtR rs w) (fun i _ => rs.length - (intOf i).toNat)
  case atStart => exact ⟨0, Nat.zero_le _, by go_num, by rw [List.take_zero]; exact IsB.new w, (Below.refl _ w).alloc (Nat.le_refl _) _, by unfold Hid; rw [List.take_zero]; rfl⟩
  case round =>
    obtain ⟨k, hk, rfl, hB, hbl, HB⟩ := hrel
    by_cases hlt : k < rs.length
    · obtain ⟨b, o, x, rfl, hcx, hsx⟩ := hrd k hlt
      obtain ⟨q, cq, rfl, hst⟩ := hsx.form
      have hcx1 := cell_below hbl hcx
      have htk := rowsT_take hlt
      have hln := rowsT_mono rs (k + 1)
      rw [htk] at hln
      have hbk := bad_take hlt
      have hmem : rs[k] ∈ rs := List.getElem_mem hlt
      generalize rs[k] = r at *
      have HTK := Lib.hid htk
      have HBK := Lib.hid hbk
      clear htk hbk hsx hrd
      simp only [List.length_append, List.length_cons, List.length_nil] at hln
      by_cases hr : r = []
      · have t0 : ((r.length : Int) == 0) = true := by rw [hr]; rfl
        have hp : Cs.print rs = ([], 1) := by
          unfold Cs.print
          rw [if_pos]
          unfold Cs.bad
          rw [List.any_eq_true]
          exact ⟨r, hmem, by rw [hr]; rfl⟩
        have HP := Lib.hid hp
        clear hp hr
        go_wp2_with fail
        go_ret2
        exact ⟨by rw [HP.out]; rfl, hbl⟩
      · have hrl := List.length_pos_iff.2 hr
        have t0 : ((r.length : Int) == 0) = false := beq_eq_false_iff_ne.2 (by omega)
        have hre : r.isEmpty = false := by cases r with | nil => exact absurd rfl hr | cons _ _ => rfl
        have HRE := Lib.hid hre
        have hrn : r.length ≤ 4294967000 := by have := fields_len2 r; omega
        clear hr hre
        go_wp2_with fail
        go_loopw [20] (PfR rs k r w) (fun i _ => r.length - (intOf i).toNat)
        case atStart => exact ⟨0, Nat.zero_le _, by go_num, by rw [List.take_zero]; simpa [Cs.fields] using hB, hbl⟩
        case round =>
          obtain ⟨m, hm, rfl, hB1, hbl1⟩ := hrel
          have hfm := fields_mono r m
          by_cases hlm : m < r.length
          · obtain ⟨b2, o2, rfl, hcs0⟩ := hst m hlm
            have hcs := cell_below hbl1 hcs0
            clear hcs0
            have hfs := fields_take hlm
            have hfm1 := fields_mono r (m + 1)
            have hfl := field_len r[m]
            generalize r[m] = f at *
            have hft := fun W => field_text (bs f) W (by rw [bs_size]; rw [hfs] at hfm1; split at hfm1 <;> (try simp only [List.length_append, List.length_cons] at hfm1) <;> omega)
            rw [bs_data] at hft
            by_cases hm0 : m = 0
            · subst hm0
              rw [if_pos rfl] at hfs
              rw [Nat.add_zero] at hcs
              rw [List.take_zero, show Cs.fields [] = [] from rfl, List.append_nil] at hB1
              have HFS := Lib.hid hfs
              rw [hfs] at hfm1
              clear hfs
              have HFT := Lib.hid hft
              clear hft
              go_wp2_with (first
                | (go_at_call 16; refine (HFT.out _).mono ?_; rintro e w2 ⟨rfl, hb2⟩)
                | (go_at_call 20; refine (ws_any _ _ _ (bs (Cs.field f)) _ (hB1.below hb2) (by omega) (by rw [bs_size]; omega)).mono ?_; rintro e w3 ⟨rfl, hB3, hb3⟩))
              go_roundw
              case rel => exact ⟨1, by omega, by go_num, by rw [HFS.out]; exact hB3, (hbl1.trans (hb2.mono hbl1.size)).trans hb3⟩
              case measure => simp [intOf]; omega
            · rw [if_neg hm0] at hfs
              have t1 : (decide ((m : Int) > 0)) = true := decide_eq_true (by omega)
              have HFS := Lib.hid hfs
              rw [hfs] at hfm1
              simp only [List.length_append, List.length_cons] at hfm1
              clear hfs
              have HFT := Lib.hid hft
              clear hft
              go_wp2_with (first
                | (go_at_call 19; refine (wb_any _ _ _ 44 _ hB1 (by simp only [List.length_append]; omega)).mono ?_; rintro e w1 ⟨rfl, hBc, hbc⟩)
                | (go_at_call 16; refine (HFT.out _).mono ?_; rintro e w2 ⟨rfl, hb2⟩)
                | (go_at_call 20; refine (ws_any _ _ _ (bs (Cs.field f)) _ (hBc.below hb2) (by simp only [List.length_append, List.length_cons, List.length_nil]; omega) (by rw [bs_size]; omega)).mono ?_; rintro e w3 ⟨rfl, hB3, hb3⟩))
              go_roundw
              case rel => exact ⟨m + 1, by omega, by go_num, by rw [HFS.out]; simpa [bs_data] using hB3, ((hbl1.trans hbc).trans (hb2.mono (hbl1.trans hbc).size)).trans hb3⟩
              case measure => simp [intOf]; omega
          · obtain rfl : m = r.length := by omega
            rw [List.take_length] at hB1
            go_wp2_with (go_at_call 20; refine (ws_any _ _ _ (bs [13, 10]) _ hB1 (by simp only [List.length_append]; omega) (by rw [bs_size]; decide)).mono ?_; rintro e w3 ⟨rfl, hB3, hb3⟩)
            go_roundw
            case rel =>
              refine ⟨k + 1, by omega, by go_num, ?_, hbl1.trans hb3, ?_⟩
              · rw [HTK.out]; simpa [bs_data] using hB3
              · unfold Hid; rw [HBK.out, HB.out, HRE.out]; rfl
            case measure => simp [intOf]; omega
    · obtain rfl : k = rs.length := by omega
      rw [List.take_length] at hB
      have hp : Cs.print rs = (Cs.rowsT rs, 0) := by
        unfold Cs.print
        have := HB.out
        rw [List.take_length] at this
        rw [if_neg (by rw [this]; simp)]
      have HP := Lib.hid hp
      clear hp
      go_wp2_with (go_at_call 21; refine (bstr_any _ _ _ _ hB).mono ?_; rintro e w4 ⟨rfl, hb4⟩)
      go_ret2
      exact ⟨by rw [HP.out]; rfl, hbl.trans hb4⟩

end Go.Proofs.Ytnljlbhknbjinaa
