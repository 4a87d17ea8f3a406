/-
  The reference's Codes and Valid: is a text codes' bytes? Condition: the text is shorter than 2^32 bytes.
-/
import Derived.Test.YthbpkmmnoeikoaaUtfRGet
import Derived.Test.YthbpkmmnoeikoaaUtfValid
namespace Go.Proofs.Ythbpkmmnoeikoaa
open Go Go.RowKit
set_option linter.unusedVariables false
set_option linter.unusedSimpArgs false

theorem owns_slicer {w : World} {base n size : Nat} {e : TypeId} {v : Value} {xs : List Value} (h : w.ownsRow base e size v n xs) : ∃ p k c, v = .slice p k c := by
  rcases h.2 with ⟨rfl, _⟩ | ⟨g, cap, cur, rfl, _⟩
  · exact ⟨_, _, _, rfl⟩
  · exact ⟨_, _, _, rfl⟩
theorem owns_below {W W' : World} {base n : Nat} {e : TypeId} {v : Value} {xs : List Value} (h : W.ownsRow base e 1 v n xs) (hs : Below W.heap.size W W') : W'.ownsRow base e 1 v n xs := by
  refine h.kept (row := none) ⟨hs.os, hs.tape, hs.output, hs.size, fun k hk _ => hs.block k hk⟩ ?_
  cases hv : v.ownBlock
  · exact .inl rfl
  · exact .inr (by simp)

def CrR (T : List (Nat × Nat)) (s : ByteArray) (w0 : World) (v i : Value) (w : World) : Prop :=
  ∃ (pre : List (Nat × Nat)) (m k : Nat), Hid (T = pre ++ cods (m + 1) (s.data.toList.drop k) k ∧ cend pre = k) ∧ pre.length ≤ k ∧ s.size - k < m + 1 ∧ k ≤ s.size ∧ i = .int .i64 (k : Int) ∧ w.ownsRow w0.heap.size 3 1 v pre.length (pre.map encI) ∧ Below w0.heap.size w0 w

set_option maxRecDepth 100000 in
set_option maxHeartbeats 2000000 in
theorem rcodes_any (s : ByteArray) (w : World) (hs : s.size ≤ 4294967280) :
    Calls Try.prog 79 #[.string s] w fun e w' => ∃ p k c, e = .returned (.tuple #[.slice p k c, .int .i64 (cend (cods (s.size + 1) s.data.toList 0) : Int)]) ∧ Below w.heap.size w w' := by
  obtain ⟨i0, hi, hz0, hz1, hz2⟩ := info_parts infoI
  have hcv := cv_run s
  obtain ⟨T, hT⟩ : ∃ T, T = cods (s.size + 1) s.data.toList 0 := ⟨_, rfl⟩
  rw [← hT]
  have HT := Lib.hid hT
  clear hT
  go_enter Try.func79, Try.ntmps79
  go_wp2
  go_loopw [4, 5] (CrR T s w) (fun _ i _ => s.size - (intOf i).toNat)
  case atStart => exact ⟨[], s.size, 0, ⟨HT.out, rfl⟩, by simp, by omega, by omega, by go_num, World.ownsRow_nil _ _ _ _, Below.refl _ _⟩
  case round =>
    obtain ⟨pre, m, k, HX, hpk, hm, hk, rfl, hown, hbl⟩ := hrel
    obtain ⟨vp, vk, vc, rfl⟩ := owns_slicer hown
    by_cases hlt : k < s.size
    · have tl : decide ((k : Int) < (s.size : Int)) = true := decide_eq_true (by omega)
      have hga := rget_any _ s.data.toList k _ (cv_bytes s wr (by unfold maxLen; omega)) (by rw [len_data]; omega) (by rw [len_data]; omega)
      have hb1 := cv_below s wr
      cases hg : Uf.get (s.data.toList.drop k) with
      | none =>
        rw [hg] at hga
        have hx := HX.out
        rw [cods_none m k hg, List.append_nil] at hx
        have HY : Hid (cend T = k) := by rw [hx.1]; exact hx.2
        clear HX hx hg HT
        unfold getV at hga
        go_wp2_with (go_at_call 96; refine hga.mono ?_; rintro e w2 ⟨rfl, hb2⟩)
        go_ret2
        exact ⟨_, _, _, by rw [HY.out]; rfl, hbl.trans ((chain hb1 hb2).mono hbl.size)⟩
      | some p =>
        rw [hg] at hga
        obtain ⟨g1, g2, g3, g4⟩ := get_len hg
        rw [List.length_drop, len_data] at g3
        have hx := HX.out
        rw [cods_some m k hg, List.drop_drop] at hx
        have HY : Hid (T = (pre ++ [(k + p.2, p.1)]) ++ cods (m - 1 + 1) (s.data.toList.drop (k + p.2)) (k + p.2) ∧ cend (pre ++ [(k + p.2, p.1)]) = k + p.2) := by
          refine ⟨?_, cend_snoc _ _⟩
          rw [Nat.sub_add_cancel (by omega), hx.1]; simp
        clear HX hx hg
        unfold getV at hga
        have hsz := hbl.size
        go_wp2_with (first
          | (go_at_call 96; refine hga.mono ?_; rintro e w2 ⟨rfl, hb2⟩; have hown2 := owns_below hown (chain hb1 hb2); have hs2 := (chain hb1 hb2).size)
          | (at_builtin; refine wpList_append_own_at _ rfl _ _ 117 rfl w.heap.size 3 i0 (.int .i64 0) 1 8 Try.underlying117 hi hz0 hz1 hz2 rfl (by decide) _ _ _ rfl (hown2.alloc _) ⟨w2.heap.size, 0, none⟩ 1 1 [.int .i64 (p.1 : Int)] rfl rfl (cell_one_new _ _ _) (by simp [Value.oneCell']) (by unfold maxLen; omega) (by omega) (by simp; omega) ?_; intro v3 w3 hown3 hg3 _ _; obtain ⟨vp3, vk3, vc3, rfl⟩ := owns_slicer hown3; have hbl3 := ((hbl.trans ((chain hb1 hb2).mono hsz)).alloc (by omega) _).grown hg3 (by simp; omega) (fun j e => (hown2.lt j e).1)))
        go_roundw
        case rel => exact ⟨pre ++ [(k + p.2, p.1)], m - 1, k + p.2, HY, by simp; omega, by omega, by omega, by go_num, by simpa [encI] using hown3, hbl3⟩
        case measure => simp [intOf]; omega
    · have tl : decide ((k : Int) < (s.size : Int)) = false := decide_eq_false (by omega)
      have hd : s.data.toList.drop k = [] := List.drop_eq_nil_of_le (by rw [len_data]; omega)
      have hx := HX.out
      rw [hd, cods_none m k rfl, List.append_nil] at hx
      have HY : Hid (cend T = k) := by rw [hx.1]; exact hx.2
      clear HX hx hd HT
      go_wp2
      go_ret2
      exact ⟨_, _, _, by rw [HY.out]; rfl, hbl⟩

theorem rvalid_any (s : ByteArray) (w : World) (hs : s.size ≤ 4294967280) :
    Calls Try.prog 40 #[.string s] w fun e w' => e = .returned (.bool (valid s.data.toList)) ∧ Below w.heap.size w w' := by
  have HC := Lib.hid (rcodes_any s w hs)
  unfold valid
  rw [len_data]
  generalize cend (cods (s.size + 1) s.data.toList 0) = c at *
  by_cases h : c = s.size
  · have t0 : ((c : Int) == (s.size : Int)) = true := beq_iff_eq.2 (by omega)
    have HV : Hid (decide (c = s.size) = true) := decide_eq_true h
    clear h
    go_enter Try.func40, Try.ntmps40
    go_wp2_with (go_at_call 79; refine HC.out.mono ?_; rintro e w1 ⟨p1, k1, c1, rfl, hb1⟩)
    go_ret
    exact ⟨ret_b (by rw [HV.out]), hb1⟩
  · have t0 : ((c : Int) == (s.size : Int)) = false := beq_eq_false_iff_ne.2 (by omega)
    have HV : Hid (decide (c = s.size) = false) := decide_eq_false h
    clear h
    go_enter Try.func40, Try.ntmps40
    go_wp2_with (go_at_call 79; refine HC.out.mono ?_; rintro e w1 ⟨p1, k1, c1, rfl, hb1⟩)
    go_ret
    exact ⟨ret_b (by rw [HV.out]), hb1⟩

end Go.Proofs.Ythbpkmmnoeikoaa
