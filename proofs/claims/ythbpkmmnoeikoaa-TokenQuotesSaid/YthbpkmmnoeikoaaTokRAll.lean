/-
  The reference's All (toks), over its Next. Condition: the text is shorter than 2^32 - 15 bytes.
-/
import Derived.Test.YthbpkmmnoeikoaaTokAll
import Derived.Test.YthbpkmmnoeikoaaTokRNext
namespace Go.Proofs.Ythbpkmmnoeikoaa
open Go Go.RowKit Go.Shelf
set_option linter.unusedVariables false
set_option linter.unusedSimpArgs false

theorem owns_form {w : World} {base n size : Nat} {e : TypeId} {v : Value} {xs : List Value} (h : w.ownsRow base e size v n xs) : ∃ p k c, v = .slice p k c := by
  rcases h.2 with ⟨rfl, _⟩ | ⟨g, cap, cur, rfl, _⟩
  · exact ⟨_, _, _, rfl⟩
  · exact ⟨_, _, _, rfl⟩
theorem row_below {w w' : World} {base n size : Nat} {e : TypeId} {v : Value} {xs : List Value} (h : w.ownsRow base e size v n xs) (hb : Below w.heap.size w w') : w'.ownsRow base e size v n xs := (CKt.below hb).owns h

theorem two_bel {wr w1 : World} (hb : Below wr.heap.size wr w1) (x : Tk.Tok) : Below wr.heap.size wr ((w1.alloc (.cells (tokCells x) 52)).alloc (.cells (tokCells x) 52)) := (hb.alloc hb.size _).alloc (by rw [World.size_alloc]; exact Nat.le_succ_of_le hb.size) _
theorem two_new (w1 : World) (x : Tk.Tok) : ((w1.alloc (.cells (tokCells x) 52)).alloc (.cells (tokCells x) 52)).heap[w1.heap.size + 1]? = some (.cells (tokCells x) 52 (0, 0)) := by
  have := heap_alloc_new (w1.alloc (.cells (tokCells x) 52)) (.cells (tokCells x) 52)
  rwa [World.size_alloc] at this
/-- behind the append: the token's own cell, and the heap -/
theorem two_step {wr w1 w2 : World} {n₀ n : Nat} {v : Value} {xs : List Value} {x : Tk.Tok} (hb : Below wr.heap.size wr w1) (hrow : wr.ownsRow n₀ 52 5 v n xs) (hg : ((w1.alloc (.cells (tokCells x) 52)).alloc (.cells (tokCells x) 52)).grownBy w2 v.ownBlock) :
    w2.heap[w1.heap.size]? = some (.cells (tokCells x) 52 (0, 0)) ∧ (n₀ ≤ wr.heap.size → Below n₀ wr w2) := by
  refine ⟨?_, fun hn => ?_⟩
  · refine (hg.block _ (by simp; omega) (fun e => ?_)).trans ?_
    · have := (hrow.lt _ e.symm).2
      have := hb.size
      omega
    · exact (Below.heap_alloc _ _ _ (by simp)).trans (heap_alloc_new w1 _)
  · exact ((two_bel hb x).mono hn).grown hg (Nat.le_trans hn (two_bel hb x).size) (fun k e => (hrow.lt k e).1)

def RaR (T : List (Tk.Tok × Nat × Int)) (s : ByteArray) (w0 : World) (v a : Value) (w : World) : Prop :=
  ∃ (pre : List (Tk.Tok × Nat × Int)) (n i : Nat), Hid (T = pre ++ its (n + 1) s.data.toList i) ∧ s.size - i < n + 1 ∧ i ≤ s.size ∧ a = .int .i64 (i : Int) ∧
    w.ownsRow w0.heap.size 52 5 v (good pre).length (tcells (good pre)) ∧ Below w0.heap.size w0 w

set_option maxRecDepth 100000 in
set_option maxHeartbeats 4000000 in
theorem rall_any (s : ByteArray) (w : World) (hs : s.size ≤ 4294967280) (T : List (Tk.Tok × Nat × Int)) (hT : T = its (s.size + 1) s.data.toList 0) :
    Calls Try.prog 36 #[.string s] w fun e w' => ∃ v, e = .returned (.tuple #[v, .int .i64 (iend T : Int), .int .i64 (ierr T)]) ∧ w'.ownsRow w.heap.size 52 5 v (good T).length (tcells (good T)) ∧ Below w.heap.size w w' := by
  obtain ⟨i0, hi, hz0, hz1, hz2⟩ := info_parts infoTok
  have hlen := its_len (s.size + 1) s.data.toList 0 (by omega)
  rw [← hT, len_data] at hlen
  have HT := Lib.hid hT
  clear hT
  go_enter Try.func36, Try.ntmps36
  go_wp2
  go_loopw [5, 6] (RaR T s w) (fun _ i _ => s.size - (intOf i).toNat)
  case atStart => exact ⟨[], s.size, 0, HT, by omega, by omega, rfl, World.ownsRow_nil _ _ _ _, Below.refl _ _⟩
  case round =>
    obtain ⟨pre, m, i, HX, hm, hii, rfl, hrow, hbl⟩ := hrel
    clear HT
    have hna := rnext_pos s i wr hs hii
    have hok := next_ok s.data.toList i (by rw [len_data]; exact hii)
    have hx := HX.out
    rw [its_succ] at hx
    clear HX
    generalize Tk.next s.data.toList i = x at *
    have q2 := hok.hi
    rw [len_data] at q2
    have q3 := hok.go
    clear hok
    unfold nextV tokV at hna
    have hgl := good_len pre
    have hpl : (good pre).length < 4294967290 := by
      have h1 := congrArg List.length hx
      simp at h1; omega
    have hbs := hbl.size
    obtain ⟨t1, t1b⟩ : (x.2.2 != 0) = decide (x.2.2 ≠ 0) ∧ (x.2.2 == 0) = decide (x.2.2 = 0) := ⟨by by_cases h : x.2.2 = 0 <;> simp [h], by by_cases h : x.2.2 = 0 <;> simp [h]⟩
    by_cases h1 : x.2.2 = 0
    · rw [decide_eq_false (by simp [h1])] at t1
      rw [decide_eq_true h1] at t1b
      have hgs : good (pre ++ [x]) = good pre ++ [x.1] := by rw [good_snoc, if_pos h1]
      have hln : (good (pre ++ [x])).length = (good pre).length + 1 := by rw [hgs]; simp
      have htc : tcells (good (pre ++ [x])) = tcells (good pre) ++ (tokCells x.1).toList := by rw [hgs, tcells_snoc]
      by_cases h2 : x.1.kind = 0
      · have t2 : ((x.1.kind : Int) == 0) = true := beq_iff_eq.2 (by omega)
        have HE : Hid (T = pre ++ [x]) := by unfold Hid; rw [hx, if_pos (.inr h2)]
        have H1 := Lib.hid h1
        clear hx q3 h2 h1
        go_wp2_with (first
          | (go_at_call 34; with_reducible refine hna.mono ?_; rintro e w1 ⟨rfl, hb1⟩)
          | (at_builtin; go_loud (refine wpList_append_lies _ rfl _ _ 57 rfl w.heap.size 52 i0 _ 5 48 Try.underlying57 hi hz0 hz1 hz2 rfl (by decide) _ _ _ rfl (row_below hrow (two_bel hb1 x.1)) ⟨w1.heap.size + 1, 0, none⟩ 1 1 (tokCells x.1).toList rfl rfl (World.news_of_block (two_new w1 x.1)) (by simp [tokCells, Value.oneCell']) (by omega) (by unfold maxLen; omega) (by omega) (Nat.le_trans hbs (two_bel hb1 x.1).size) _ rfl ?_; intro g cap w2 hown hgrow hgor hglt; have hs2 := two_step hb1 hrow hgrow; obtain ⟨z0, z1, z2, z3, z4⟩ := tok_cells hs2.1)))
        refine bodyPost_ret (v := .tuple #[.slice (some ⟨g, 0, none⟩) ((good pre).length + 1) cap, .int .i64 (x.2.1 : Int), .int .i64 0]) (by simp [results, Try.results36, go_sem]) rfl ⟨.slice (some ⟨g, 0, none⟩) ((good pre).length + 1) cap, ?_, ?_, ?_⟩
        · rw [HE.out, iend_snoc, ierr_snoc, H1.out]
        · rw [HE.out, hln, htc]; exact hown
        · exact hbl.trans (hs2.2 hbs)
      · have t2 : ((x.1.kind : Int) == 0) = false := beq_eq_false_iff_ne.2 (by omega)
        rw [if_neg (by rintro (h | h); exact h h1; exact h2 h)] at hx
        have q4 := q3 h1 h2
        have HE : Hid (T = (pre ++ [x]) ++ its (m - 1 + 1) s.data.toList x.2.1) := by unfold Hid; rw [Nat.sub_add_cancel (by omega), hx]; simp
        have H1 := Lib.hid h1
        clear hx q3 h2 h1
        go_wp2_with (first
          | (go_at_call 34; with_reducible refine hna.mono ?_; rintro e w1 ⟨rfl, hb1⟩)
          | (at_builtin; go_loud (refine wpList_append_lies _ rfl _ _ 57 rfl w.heap.size 52 i0 _ 5 48 Try.underlying57 hi hz0 hz1 hz2 rfl (by decide) _ _ _ rfl (row_below hrow (two_bel hb1 x.1)) ⟨w1.heap.size + 1, 0, none⟩ 1 1 (tokCells x.1).toList rfl rfl (World.news_of_block (two_new w1 x.1)) (by simp [tokCells, Value.oneCell']) (by omega) (by unfold maxLen; omega) (by omega) (Nat.le_trans hbs (two_bel hb1 x.1).size) _ rfl ?_; intro g cap w2 hown hgrow hgor hglt; have hs2 := two_step hb1 hrow hgrow; obtain ⟨z0, z1, z2, z3, z4⟩ := tok_cells hs2.1)))
        go_roundw
        case rel => exact ⟨pre ++ [x], m - 1, x.2.1, HE, by omega, by omega, rfl, by rw [hln, htc]; exact hown, hbl.trans (hs2.2 hbs)⟩
        case measure => simp [intOf]; omega
    · rw [decide_eq_true h1] at t1
      rw [decide_eq_false h1] at t1b
      rw [if_pos (.inl h1)] at hx
      have HE : Hid (T = pre ++ [x]) := hx
      have hgs : good (pre ++ [x]) = good pre := by rw [good_snoc, if_neg h1]
      clear hx q3 h1
      go_wp2_with (go_at_call 34; with_reducible refine hna.mono ?_; rintro e w1 ⟨rfl, hb1⟩)
      refine bodyPost_ret (v := .tuple #[u5, .int .i64 (x.2.1 : Int), .int .i64 x.2.2]) (by simp [results, Try.results36, go_sem]) rfl ⟨u5, ?_, ?_, ?_⟩
      · rw [HE.out, iend_snoc, ierr_snoc]
      · rw [HE.out, hgs]; exact row_below hrow (hb1.alloc hb1.size _)
      · exact hbl.trans ((hb1.alloc hb1.size _).mono hbs)

end Go.Proofs.Ythbpkmmnoeikoaa
