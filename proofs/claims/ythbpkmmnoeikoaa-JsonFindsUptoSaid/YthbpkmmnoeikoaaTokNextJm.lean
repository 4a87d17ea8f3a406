/-
  token.Next: the token at a place (Tk.next). Condition: the text is shorter than 2^32 bytes.
-/
import Derived.Test.YthbpkmmnoeikoaaTokNumberJJm
import Derived.WalkMore
import Derived.ScopeJumps
namespace Go.Proofs.Ythbpkmmnoeikoaa
open Go Go.RowKit
set_option linter.unusedVariables false
set_option linter.unusedSimpArgs false

def tokV (t : Tk.Tok) : Value := .agg #[.int .i64 (t.kind : Int), .int .i64 (t.at' : Int), .int .i64 (t.end' : Int), str t.s, .int .i64 t.n]
def nextV (p : Tk.Tok × Nat × Int) : Value := .tuple #[tokV p.1, .int .i64 (p.2.1 : Int), .int .i64 p.2.2]
def marks : List UInt8 := [91, 93, 123, 125, 58, 44]
theorem markK : ∀ n : Nat, n < 256 → Lib.indexByte marks (UInt8.ofNat n) ≤ 5 ∧ (if Lib.indexByte marks (UInt8.ofNat n) < 0 then none else some (1 + (Lib.indexByte marks (UInt8.ofNat n)).toNat)) = Tk.mark (UInt8.ofNat n) := by decide +kernel

theorem tok_cells {W : World} {b : Nat} {t : TypeId} {v0 v1 v2 v3 v4 : Value} (h : W.heap[b]? = some (.cells #[v0, v1, v2, v3, v4] t (0, 0))) :
    W.cell? ⟨b, 0, none⟩ = some v0 ∧ W.cell? ⟨b, 1, none⟩ = some v1 ∧ W.cell? ⟨b, 2, none⟩ = some v2 ∧ W.cell? ⟨b, 3, none⟩ = some v3 ∧ W.cell? ⟨b, 4, none⟩ = some v4 :=
  ⟨(cell_of_row W b 0 _ _ (0, 0) h).trans rfl, (cell_of_row W b 1 _ _ (0, 0) h).trans rfl, (cell_of_row W b 2 _ _ (0, 0) h).trans rfl, (cell_of_row W b 3 _ _ (0, 0) h).trans rfl, (cell_of_row W b 4 _ _ (0, 0) h).trans rfl⟩

set_option maxRecDepth 100000 in
set_option maxHeartbeats 2000000 in
theorem next_neg (s : ByteArray) (at1 : Int) (w : World) (ha : at1 < 0) :
    Calls Try.prog 33 #[.string s, .int .i64 at1] w fun e w' => e = .returned (.tuple #[tokV Tk.zero, .int .i64 at1, .int .i64 1]) ∧ Below w.heap.size w w' := by
  go_enter Try.func33, Try.ntmps33
  go_wp2
  go_step3
  go_wp2
  rw [Exit.noGoto_ret]
  have hh := heap_alloc_new w (.cells #[.int .i64 0, .int .i64 0, .int .i64 0, .string ⟨#[]⟩, .int .i64 0] 52)
  obtain ⟨e0, e1, e2, e3, e4⟩ := tok_cells hh
  have hb := (Below.refl w.heap.size w).alloc (Nat.le_refl _) (.cells #[.int .i64 0, .int .i64 0, .int .i64 0, .string ⟨#[]⟩, .int .i64 0] 52)
  generalize w.alloc (.cells #[.int .i64 0, .int .i64 0, .int .i64 0, .string ⟨#[]⟩, .int .i64 0] 52) = W at *
  exact bodyPost_ret (v := .tuple #[tokV Tk.zero, .int .i64 at1, .int .i64 1]) (by simp [results, Try.results33, go_sem, tokV, Tk.zero, bs, e0, e1, e2, e3, e4]) rfl ⟨rfl, hb⟩

theorem two_tok (w : World) (v0 v1 v2 v3 v4 : Value) (o : Obj) : ∃ W, W = (w.alloc (.cells #[v0, v1, v2, v3, v4] 52)).alloc o ∧ (W.cell? ⟨w.heap.size, 0, none⟩ = some v0 ∧ W.cell? ⟨w.heap.size, 1, none⟩ = some v1 ∧ W.cell? ⟨w.heap.size, 2, none⟩ = some v2 ∧ W.cell? ⟨w.heap.size, 3, none⟩ = some v3 ∧ W.cell? ⟨w.heap.size, 4, none⟩ = some v4) ∧ Below w.heap.size w W := by
  refine ⟨_, rfl, tok_cells ((Below.heap_alloc _ _ _ (by simp)).trans (heap_alloc_new w _)), ((Below.refl _ w).alloc (Nat.le_refl _) _).alloc (by simp) _⟩

theorem two_tokd (w : World) (v0 v1 v2 v3 v4 : Value) (o : Obj) : ∃ W, W = ((w.alloc (.cells #[v0, v1, v2, v3, v4] 52)).alloc o).drew ∧ (W.cell? ⟨w.heap.size, 0, none⟩ = some v0 ∧ W.cell? ⟨w.heap.size, 1, none⟩ = some v1 ∧ W.cell? ⟨w.heap.size, 2, none⟩ = some v2 ∧ W.cell? ⟨w.heap.size, 3, none⟩ = some v3 ∧ W.cell? ⟨w.heap.size, 4, none⟩ = some v4) ∧ Below w.heap.size w W := by
  obtain ⟨W, hW, h1, h2⟩ := two_tok w v0 v1 v2 v3 v4 o
  exact ⟨W.drew, by rw [hW], h1, h2.drew⟩

theorem tok_frozen {W : World} {b : Nat} {t : TypeId} {cs : Array Value} (h : W.heap[b]? = some (.cells cs t (0, 0))) : W.frozen? ⟨b, 0, none⟩ = false ∧ W.frozen? ⟨b, 1, none⟩ = false ∧ W.frozen? ⟨b, 2, none⟩ = false ∧ W.frozen? ⟨b, 3, none⟩ = false ∧ W.frozen? ⟨b, 4, none⟩ = false := by
  simp [World.frozen?, h]
theorem two_after {w w2 : World} {c1 c2 : Array Value} (h : Below ((w.alloc (.cells c1 52)).alloc (.cells c2 52)).heap.size ((w.alloc (.cells c1 52)).alloc (.cells c2 52)) w2) :
    w2.heap[w.heap.size]? = some (.cells c1 52 (0, 0)) ∧ w2.heap[w.heap.size + 1]? = some (.cells c2 52 (0, 0)) ∧
    (w2.frozen? ⟨w.heap.size, 0, none⟩ = false ∧ w2.frozen? ⟨w.heap.size, 1, none⟩ = false ∧ w2.frozen? ⟨w.heap.size, 2, none⟩ = false ∧ w2.frozen? ⟨w.heap.size, 3, none⟩ = false ∧ w2.frozen? ⟨w.heap.size, 4, none⟩ = false) ∧
    (w2.frozen? ⟨w.heap.size + 1, 0, none⟩ = false ∧ w2.frozen? ⟨w.heap.size + 1, 1, none⟩ = false ∧ w2.frozen? ⟨w.heap.size + 1, 2, none⟩ = false ∧ w2.frozen? ⟨w.heap.size + 1, 3, none⟩ = false ∧ w2.frozen? ⟨w.heap.size + 1, 4, none⟩ = false) ∧ Below w.heap.size w w2 := by
  have h1 : w2.heap[w.heap.size]? = some (.cells c1 52 (0, 0)) := (h.block _ (by simp; omega)).trans ((Below.heap_alloc _ _ _ (by simp)).trans (heap_alloc_new w _))
  have h2 : w2.heap[w.heap.size + 1]? = some (.cells c2 52 (0, 0)) := by
    have := heap_alloc_new (w.alloc (.cells c1 52)) (.cells c2 52)
    rw [World.size_alloc] at this
    exact (h.block _ (by simp)).trans this
  refine ⟨h1, h2, tok_frozen h1, tok_frozen h2, (((Below.refl _ w).alloc (Nat.le_refl _) _).alloc (by simp) _).trans (h.mono (by simp; omega))⟩

theorem row_set {W : World} {b : Nat} {t : TypeId} {cs : Array Value} (h : W.heap[b]? = some (.cells cs t (0, 0))) (j : Nat) (v : Value) : (W.setCell ⟨b, j, none⟩ v).heap[b]? = some (.cells (cs.setIfInBounds j v) t (0, 0)) := by
  have hlt := (Array.getElem?_eq_some_iff.1 h)
  show (W.heap.modify b _)[b]? = _
  rw [Array.getElem?_eq_getElem (by rw [Array.size_modify]; exact hlt.1), Array.getElem_modify_self, hlt.2]
  rfl
theorem row_other {W : World} {b b' : Nat} {o : Obj} (h : W.heap[b]? = some o) (hne : b' ≠ b) (j : Nat) (v : Value) : (W.setCell ⟨b', j, none⟩ v).heap[b]? = some o := by
  have hlt := (Array.getElem?_eq_some_iff.1 h)
  show (W.heap.modify b' _)[b]? = _
  rw [Array.getElem?_modify]
  simp [hne, h]
theorem tok_set5 {W : World} {b n₀ : Nat} {t : TypeId} {u0 u1 u2 u3 u4 : Value} (h : W.heap[b]? = some (.cells #[u0, u1, u2, u3, u4] t (0, 0))) (hn : n₀ ≤ b) (v0 v1 v2 v3 v4 : Value) :
    ∃ WW, WW = (((((W.setCell ⟨b, 0, none⟩ v0).setCell ⟨b, 1, none⟩ v1).setCell ⟨b, 2, none⟩ v2).setCell ⟨b, 3, none⟩ v3).setCell ⟨b, 4, none⟩ v4) ∧ WW.heap[b]? = some (.cells #[v0, v1, v2, v3, v4] t (0, 0)) ∧ Below n₀ W WW :=
  ⟨_, rfl, row_set (row_set (row_set (row_set (row_set h 0 v0) 1 v1) 2 v2) 3 v3) 4 v4, (((((Below.refl n₀ W).setCell (p := ⟨b, 0, none⟩) hn v0).setCell (p := ⟨b, 1, none⟩) hn v1).setCell (p := ⟨b, 2, none⟩) hn v2).setCell (p := ⟨b, 3, none⟩) hn v3).setCell (p := ⟨b, 4, none⟩) hn v4⟩
theorem tok_set3 {W : World} {b c n₀ : Nat} {t : TypeId} {o : Obj} {u0 u1 u2 u3 u4 : Value} (h : W.heap[b]? = some (.cells #[u0, u1, u2, u3, u4] t (0, 0))) (hc : W.heap[c]? = some o) (hne : b ≠ c) (hn : n₀ ≤ b) (v0 v3 v2 : Value) :
    ∃ WW, WW = (((W.setCell ⟨b, 0, none⟩ v0).setCell ⟨b, 3, none⟩ v3).setCell ⟨b, 2, none⟩ v2) ∧ WW.heap[b]? = some (.cells #[v0, u1, v2, v3, u4] t (0, 0)) ∧ WW.heap[c]? = some o ∧ Below n₀ W WW :=
  ⟨_, rfl, row_set (row_set (row_set h 0 v0) 3 v3) 2 v2, row_other (row_other (row_other hc hne 0 v0) hne 3 v3) hne 2 v2, (((Below.refl n₀ W).setCell (p := ⟨b, 0, none⟩) hn v0).setCell (p := ⟨b, 3, none⟩) hn v3).setCell (p := ⟨b, 2, none⟩) hn v2⟩

theorem zero_res {W : World} {b : Nat} (h : W.heap[b]? = some (.cells #[.int .i64 0, .int .i64 0, .int .i64 0, .string ⟨#[]⟩, .int .i64 0] 52 (0, 0))) :
    W.cell? ⟨b, 0, none⟩ = some (.int .i64 0) ∧ W.cell? ⟨b, 1, none⟩ = some (.int .i64 0) ∧ W.cell? ⟨b, 2, none⟩ = some (.int .i64 0) ∧ W.cell? ⟨b, 3, none⟩ = some (.string ⟨#[]⟩) ∧ W.cell? ⟨b, 4, none⟩ = some (.int .i64 0) := tok_cells h

set_option maxRecDepth 100000 in
set_option maxHeartbeats 16000000 in
theorem next_pos (s : ByteArray) (a : Nat) (w : World) (hs : s.size ≤ 4294967280) (ha : a ≤ s.size) :
    Calls Try.prog 33 #[.string s, .int .i64 (a : Int)] w fun e w' => e = .returned (nextV (Tk.next s.data.toList a)) ∧ Below w.heap.size w w' := by
  have HB := Lib.hid (fun W => run_blank (s.extract a s.size) W (by rw [ByteArray.size_extract]; unfold maxLen; omega))
  rw [drop_ext] at HB
  have hsp : Tk.span Tk.blank (s.data.toList.drop a) ≤ s.size - a := by
    have := Tk.span_le Tk.blank (s.data.toList.drop a)
    rw [List.length_drop, len_data] at this; exact this
  unfold Tk.next
  generalize Tk.span Tk.blank (s.data.toList.drop a) = n at *
  have zx : ((s.extract a s.size).extract 0 n).size = n := by rw [ByteArray.size_extract, ByteArray.size_extract]; omega
  have ta : decide ((a : Int) > (s.size : Int)) = false := decide_eq_false (by omega)
  obtain ⟨b, hab⟩ : ∃ b, b = a + n := ⟨_, rfl⟩
  have hab2 : (a : Int) + (n : Int) = (b : Int) := by omega
  rw [← hab]
  have hbs : b ≤ s.size := by omega
  clear hab
  obtain ⟨N, hN⟩ : ∃ N, N = Tk.tok b (s.data.toList.drop b) := ⟨_, rfl⟩
  rw [← hN]
  have HN := Lib.hid hN
  clear hN
  have hh1 := heap_alloc_new w (.cells #[.int .i64 0, .int .i64 0, .int .i64 0, .string ⟨#[]⟩, .int .i64 0] 52)
  by_cases hlt : b < s.size
  · have te : ((b : Int) == (s.size : Int)) = false := beq_eq_false_iff_ne.2 (by omega)
    have hd : s.data.toList.drop b = s[b] :: s.data.toList.drop (b + 1) := (List.getElem_cons_drop (by rw [len_data]; exact hlt)).symm
    have hn := HN.out
    rw [hd, Tk.tok] at hn
    have HI := Lib.hid (fun W => Try.strings_IndexByte ⟨#[91, 93, 123, 125, 58, 44]⟩ (s[b].toNat : Int) W)
    have hcc : ((s[b].toNat : Int)).toNat.toUInt8 = s[b] := by simp
    rw [hcc] at HI
    change Hid (∀ W, Calls _ _ _ W fun e w' => e = .returned (.int .i64 (Lib.indexByte marks s[b])) ∧ w' = W) at HI
    have hmk := markK s[b].toNat s[b].toNat_lt
    have hc3 : UInt8.ofNat s[b].toNat = s[b] := by simp
    rw [hc3] at hmk
    generalize Lib.indexByte marks s[b] = q at *
    by_cases hq : q < 0
    · rw [if_pos hq] at hmk
      rw [← hmk.2] at hn
      dsimp only at hn
      clear hmk
      by_cases h34 : s[b] = 34
      · rw [if_pos h34] at hn
        have t34 : ((s[b].toNat : Int) == 34) = true := by rw [h34]; rfl
        have hrl : (s.data.toList.drop (b + 1)).length + 1 = s.size - (b + 1) + 1 := by rw [List.length_drop, len_data]
        have hX := fun W => text_any s (b + 1) W hs (by omega)
        rw [hrl] at hn
        generalize Tk.txt (s.size - (b + 1) + 1) (s.data.toList.drop (b + 1)) [] = P at *
        obtain ⟨x, e0, ok⟩ := P
        unfold txtV ab at hX
        dsimp only at hX hn
        have hce : ((b + 1 + e0 : Nat) : Int) = (b : Int) + 1 + (e0 : Int) := by omega
        have hcb : ((b + 1 : Nat) : Int) = (b : Int) + 1 := by omega
        rw [hce, hcb] at hX
        have HX := Lib.hid hX
        clear hX hd hcc hc3 h34 hrl
        cases ok with
        | false =>
          rw [if_neg (by simp)] at hn
          obtain rfl := hn
          clear HN
          go_enter Try.func33, Try.ntmps33
          go_wp2
          go_step3
          go_wp2_with (go_at_call 64; with_reducible refine (HB.out _).mono ?_; rintro e w1 ⟨rfl, rfl⟩)
          go_step3
          go_wp2_with (first | (go_at_call 66; with_reducible refine (HI.out _).mono ?_; rintro e w1 ⟨rfl, rfl⟩) | (go_at_call 67; with_reducible refine (HX.out _).mono ?_; rintro e w2 ⟨rfl, hb2⟩; obtain ⟨k4, k7, f4, f7, hbw⟩ := two_after hb2; obtain ⟨x0, x1, x2, x3, x4⟩ := tok_cells k4; obtain ⟨y0, y1, y2, y3, y4⟩ := tok_cells k7))
          rw [Exit.noGoto_ret]
          obtain ⟨WW, hWW, hk, hbb⟩ := tok_set5 k4 (Nat.le_refl _) (.int .i64 0) (.int .i64 0) (.int .i64 0) (.string ⟨#[]⟩) (.int .i64 0)
          obtain ⟨z0, z1, z2, z3, z4⟩ := tok_cells hk
          rw [← hWW]
          clear hWW
          exact bodyPost_ret (v := nextV (Tk.zero, b + 1 + e0, 2)) (by simp [results, Try.results33, go_sem, nextV, tokV, Tk.zero, bs, z0, z1, z2, z3, z4]) rfl ⟨rfl, hbw.trans hbb⟩
        | true =>
          rw [if_pos rfl] at hn
          obtain rfl := hn
          clear HN
          go_enter Try.func33, Try.ntmps33
          go_wp2
          go_step3
          go_wp2_with (go_at_call 64; with_reducible refine (HB.out _).mono ?_; rintro e w1 ⟨rfl, rfl⟩)
          go_step3
          go_wp2_with (first | (go_at_call 66; with_reducible refine (HI.out _).mono ?_; rintro e w1 ⟨rfl, rfl⟩) | (go_at_call 67; with_reducible refine (HX.out _).mono ?_; rintro e w2 ⟨rfl, hb2⟩; obtain ⟨k4, k7, f4, f7, hbw⟩ := two_after hb2; obtain ⟨x0, x1, x2, x3, x4⟩ := tok_cells k4; obtain ⟨y0, y1, y2, y3, y4⟩ := tok_cells k7; obtain ⟨g0, g1, g2, g3, g4⟩ := f7; obtain ⟨m0, m1, m2, m3, m4⟩ := f4))
          obtain ⟨W3, hW3, hk7, hk4, hb3⟩ := tok_set3 k7 k4 (by omega) (show w.heap.size ≤ w.heap.size + 1 by omega) (.int .i64 7) (str x) (.int .i64 ((b : Int) + 1 + (e0 : Int)))
          rw [← hW3]
          clear hW3 x0 x1 x2 x3 x4 y0 y1 y2 y3 y4 g0 g1 g2 g3 g4 m0 m1 m2 m3 m4 k4 k7
          obtain ⟨y0, y1, y2, y3, y4⟩ := tok_cells hk7
          obtain ⟨x0, x1, x2, x3, x4⟩ := tok_cells hk4
          obtain ⟨g0, g1, g2, g3, g4⟩ := tok_frozen hk4
          go_region
          go_wp2
          rw [Exit.noGoto_ret]
          obtain ⟨WW, hWW, hk, hbb⟩ := tok_set5 (W := W3) hk4 (Nat.le_refl _) (.int .i64 7) (.int .i64 (b : Int)) (.int .i64 ((b : Int) + 1 + (e0 : Int))) (str x) (.int .i64 0)
          rw [← hWW]
          clear hWW
          have hbd := ((hbw.trans hb3).trans hbb).drew
          obtain ⟨z0, z1, z2, z3, z4⟩ : _ ∧ _ ∧ _ ∧ _ ∧ _ := tok_cells (W := WW.drew) hk
          generalize WW.drew = WD at *
          exact bodyPost_ret (v := nextV (⟨7, b, b + 1 + e0, x, 0⟩, b + 1 + e0, 0)) (by simp [results, Try.results33, go_sem, nextV, tokV, Tk.zero, bs, z0, z1, z2, z3, z4]) rfl ⟨rfl, hbd⟩
      · rw [if_neg h34] at hn
        have t34 : ((s[b].toNat : Int) == 34) = false := beq_eq_false_iff_ne.2 (fun e => h34 (UInt8.toNat_inj.1 (by have : (34 : UInt8).toNat = 34 := rfl; omega)))
        have HD := Lib.hid (fun W => digit_any s[b] W)
        rw [← hd] at hn
        by_cases hdg : Tk.dig s[b] = true ∨ s[b] = 45
        · rw [if_pos hdg] at hn
          have HRr := Lib.hid (fun W => run_numc (s.extract b s.size) W (by rw [ByteArray.size_extract]; unfold maxLen; omega))
          rw [drop_ext] at HRr
          have hspn : Tk.span Tk.numc (s.data.toList.drop b) ≤ s.size - b := by
            have := Tk.span_le Tk.numc (s.data.toList.drop b)
            rw [List.length_drop, len_data] at this; exact this
          have hrow : ((s.extract b s.size).extract 0 (Tk.span Tk.numc (s.data.toList.drop b))).data.toList = (s.data.toList.drop b).takeWhile Tk.numc := by
            have := ext_take (s.extract b s.size) 0 (Tk.span Tk.numc (s.data.toList.drop b))
            rw [Nat.zero_add, List.drop_zero, drop_ext, Tk.span_take] at this; exact this
          have zrow : ((s.extract b s.size).extract 0 (Tk.span Tk.numc (s.data.toList.drop b))).size = Tk.span Tk.numc (s.data.toList.drop b) := by rw [ByteArray.size_extract, ByteArray.size_extract]; omega
          have HNb := Lib.hid (fun W => number_any ((s.extract b s.size).extract 0 (Tk.span Tk.numc (s.data.toList.drop b))) W (by rw [zrow]; omega))
          rw [hrow] at HNb
          generalize Tk.number ((s.data.toList.drop b).takeWhile Tk.numc) = nv at *
          generalize Tk.span Tk.numc (s.data.toList.drop b) = sp at *
          generalize (s.extract b s.size).extract 0 sp = rowB at *
          obtain ⟨v, er⟩ := nv
          dsimp only at hn HNb
          have hcase : (Tk.dig s[b] = true) ∨ (Tk.dig s[b] = false ∧ s[b] = 45) := by
            cases hx : Tk.dig s[b] with
            | true => exact .inl rfl
            | false => rw [hx] at hdg; exact .inr ⟨rfl, hdg.resolve_left (by simp)⟩
          clear hd hcc hc3 h34 hrow hdg
          by_cases her : er = 0
          · subst her
            rw [if_neg (by simp)] at hn
            obtain rfl := hn
            clear HN
            rcases hcase with hx | ⟨hx, h45⟩
            · rw [hx] at HD
              clear hx
              go_enter Try.func33, Try.ntmps33
              go_wp2
              go_step3
              go_wp2_with (go_at_call 64; with_reducible refine (HB.out _).mono ?_; rintro e w1 ⟨rfl, rfl⟩)
              go_step3
              go_wp2_with (first | (go_at_call 66; with_reducible refine (HI.out _).mono ?_; rintro e w1 ⟨rfl, rfl⟩) | (go_at_call 68; with_reducible refine (HD.out _).mono ?_; rintro e w1 ⟨rfl, rfl⟩) | (go_at_call 71; with_reducible refine (HL.out _).mono ?_; rintro e w1 ⟨rfl, rfl⟩) | (go_at_call 64; with_reducible refine (HRr.out _).mono ?_; rintro e w1 ⟨rfl, rfl⟩) | (go_at_call 64; with_reducible refine (HRl.out _).mono ?_; rintro e w1 ⟨rfl, rfl⟩) | (go_at_call 70; with_reducible refine (HNb.out _).mono ?_; rintro e w1 ⟨rfl, rfl⟩))
              go_region
              go_wp2
              rw [Exit.noGoto_ret]
              obtain ⟨WW, hWW, ⟨e0, e1, e2, e3, e4⟩, hbw⟩ := two_tokd w (.int .i64 8) (.int .i64 (b : Int)) (.int .i64 ((b : Int) + (sp : Int))) (.string ⟨#[]⟩) (.int .i64 v) (.cells #[.int .i64 8, .int .i64 (b : Int), .int .i64 ((b : Int) + (sp : Int)), (.string ⟨#[]⟩), .int .i64 v] 52)
              rw [← hWW]
              clear hWW
              exact bodyPost_ret (v := nextV (⟨8, b, b + sp, [], v⟩, b + sp, 0)) (by simp [results, Try.results33, go_sem, nextV, tokV, bs, e0, e1, e2, e3, e4]) rfl ⟨rfl, hbw⟩
            · rw [hx] at HD
              have t45 : ((s[b].toNat : Int) == 45) = true := by rw [h45]; rfl
              clear hx h45
              go_enter Try.func33, Try.ntmps33
              go_wp2
              go_step3
              go_wp2_with (go_at_call 64; with_reducible refine (HB.out _).mono ?_; rintro e w1 ⟨rfl, rfl⟩)
              go_step3
              go_wp2_with (first | (go_at_call 66; with_reducible refine (HI.out _).mono ?_; rintro e w1 ⟨rfl, rfl⟩) | (go_at_call 68; with_reducible refine (HD.out _).mono ?_; rintro e w1 ⟨rfl, rfl⟩) | (go_at_call 71; with_reducible refine (HL.out _).mono ?_; rintro e w1 ⟨rfl, rfl⟩) | (go_at_call 64; with_reducible refine (HRr.out _).mono ?_; rintro e w1 ⟨rfl, rfl⟩) | (go_at_call 64; with_reducible refine (HRl.out _).mono ?_; rintro e w1 ⟨rfl, rfl⟩) | (go_at_call 70; with_reducible refine (HNb.out _).mono ?_; rintro e w1 ⟨rfl, rfl⟩))
              go_region
              go_wp2
              rw [Exit.noGoto_ret]
              obtain ⟨WW, hWW, ⟨e0, e1, e2, e3, e4⟩, hbw⟩ := two_tokd w (.int .i64 8) (.int .i64 (b : Int)) (.int .i64 ((b : Int) + (sp : Int))) (.string ⟨#[]⟩) (.int .i64 v) (.cells #[.int .i64 8, .int .i64 (b : Int), .int .i64 ((b : Int) + (sp : Int)), (.string ⟨#[]⟩), .int .i64 v] 52)
              rw [← hWW]
              clear hWW
              exact bodyPost_ret (v := nextV (⟨8, b, b + sp, [], v⟩, b + sp, 0)) (by simp [results, Try.results33, go_sem, nextV, tokV, bs, e0, e1, e2, e3, e4]) rfl ⟨rfl, hbw⟩
          · rw [if_pos her] at hn
            obtain rfl := hn
            clear HN
            have ter : (er != 0) = true := by rw [bne_iff_ne]; exact her
            rcases hcase with hx | ⟨hx, h45⟩
            · rw [hx] at HD
              clear hx
              go_enter Try.func33, Try.ntmps33
              go_wp2
              go_step3
              go_wp2_with (go_at_call 64; with_reducible refine (HB.out _).mono ?_; rintro e w1 ⟨rfl, rfl⟩)
              go_step3
              go_wp2_with (first | (go_at_call 66; with_reducible refine (HI.out _).mono ?_; rintro e w1 ⟨rfl, rfl⟩) | (go_at_call 68; with_reducible refine (HD.out _).mono ?_; rintro e w1 ⟨rfl, rfl⟩) | (go_at_call 71; with_reducible refine (HL.out _).mono ?_; rintro e w1 ⟨rfl, rfl⟩) | (go_at_call 64; with_reducible refine (HRr.out _).mono ?_; rintro e w1 ⟨rfl, rfl⟩) | (go_at_call 64; with_reducible refine (HRl.out _).mono ?_; rintro e w1 ⟨rfl, rfl⟩) | (go_at_call 70; with_reducible refine (HNb.out _).mono ?_; rintro e w1 ⟨rfl, rfl⟩))
              rw [Exit.noGoto_ret]
              obtain ⟨WW, hWW, ⟨e0, e1, e2, e3, e4⟩, hbw⟩ := two_tok w (.int .i64 0) (.int .i64 0) (.int .i64 0) (.string ⟨#[]⟩) (.int .i64 0) (.cells #[.int .i64 0, .int .i64 (b : Int), .int .i64 (b : Int), .string ⟨#[]⟩, .int .i64 0] 52)
              rw [← hWW]
              clear hWW
              exact bodyPost_ret (v := nextV (Tk.zero, b, er)) (by simp [results, Try.results33, go_sem, nextV, tokV, Tk.zero, bs, e0, e1, e2, e3, e4]) rfl ⟨rfl, hbw⟩
            · rw [hx] at HD
              have t45 : ((s[b].toNat : Int) == 45) = true := by rw [h45]; rfl
              clear hx h45
              go_enter Try.func33, Try.ntmps33
              go_wp2
              go_step3
              go_wp2_with (go_at_call 64; with_reducible refine (HB.out _).mono ?_; rintro e w1 ⟨rfl, rfl⟩)
              go_step3
              go_wp2_with (first | (go_at_call 66; with_reducible refine (HI.out _).mono ?_; rintro e w1 ⟨rfl, rfl⟩) | (go_at_call 68; with_reducible refine (HD.out _).mono ?_; rintro e w1 ⟨rfl, rfl⟩) | (go_at_call 71; with_reducible refine (HL.out _).mono ?_; rintro e w1 ⟨rfl, rfl⟩) | (go_at_call 64; with_reducible refine (HRr.out _).mono ?_; rintro e w1 ⟨rfl, rfl⟩) | (go_at_call 64; with_reducible refine (HRl.out _).mono ?_; rintro e w1 ⟨rfl, rfl⟩) | (go_at_call 70; with_reducible refine (HNb.out _).mono ?_; rintro e w1 ⟨rfl, rfl⟩))
              rw [Exit.noGoto_ret]
              obtain ⟨WW, hWW, ⟨e0, e1, e2, e3, e4⟩, hbw⟩ := two_tok w (.int .i64 0) (.int .i64 0) (.int .i64 0) (.string ⟨#[]⟩) (.int .i64 0) (.cells #[.int .i64 0, .int .i64 (b : Int), .int .i64 (b : Int), .string ⟨#[]⟩, .int .i64 0] 52)
              rw [← hWW]
              clear hWW
              exact bodyPost_ret (v := nextV (Tk.zero, b, er)) (by simp [results, Try.results33, go_sem, nextV, tokV, Tk.zero, bs, e0, e1, e2, e3, e4]) rfl ⟨rfl, hbw⟩
        · rw [if_neg hdg] at hn
          have t45 : ((s[b].toNat : Int) == 45) = false := beq_eq_false_iff_ne.2 (fun e => hdg (.inr (UInt8.toNat_inj.1 (by have : (45 : UInt8).toNat = 45 := rfl; omega))))
          have hx : Tk.dig s[b] = false := by cases h : Tk.dig s[b] with | true => exact absurd (.inl h) hdg | false => rfl
          rw [hx] at HD
          have HL := Lib.hid (fun W => letter_any s[b] W)
          have HRl := Lib.hid (fun W => run_letter (s.extract b s.size) W (by rw [ByteArray.size_extract]; unfold maxLen; omega))
          rw [drop_ext] at HRl
          have hspn : Tk.span Tk.let' (s.data.toList.drop b) ≤ s.size - b := by
            have := Tk.span_le Tk.let' (s.data.toList.drop b)
            rw [List.length_drop, len_data] at this; exact this
          have hrow : ((s.extract b s.size).extract 0 (Tk.span Tk.let' (s.data.toList.drop b))).data.toList = (s.data.toList.drop b).takeWhile Tk.let' := by
            have := ext_take (s.extract b s.size) 0 (Tk.span Tk.let' (s.data.toList.drop b))
            rw [Nat.zero_add, List.drop_zero, drop_ext, Tk.span_take] at this; exact this
          have zrow : ((s.extract b s.size).extract 0 (Tk.span Tk.let' (s.data.toList.drop b))).size = Tk.span Tk.let' (s.data.toList.drop b) := by rw [ByteArray.size_extract, ByteArray.size_extract]; omega
          clear hdg hx
          cases hl : Tk.let' s[b] with
          | false =>
            have hw0 : Tk.word ((s.data.toList.drop b).takeWhile Tk.let') = false := by
              rw [hd, List.takeWhile_cons, hl]; rfl
            rw [hw0, if_neg (by simp)] at hn
            obtain rfl := hn
            rw [hl] at HL
            clear HN hd hcc hc3 h34 hw0 hl hrow
            go_enter Try.func33, Try.ntmps33
            go_wp2
            go_step3
            go_wp2_with (go_at_call 64; with_reducible refine (HB.out _).mono ?_; rintro e w1 ⟨rfl, rfl⟩)
            go_step3
            go_wp2_with (first | (go_at_call 66; with_reducible refine (HI.out _).mono ?_; rintro e w1 ⟨rfl, rfl⟩) | (go_at_call 68; with_reducible refine (HD.out _).mono ?_; rintro e w1 ⟨rfl, rfl⟩) | (go_at_call 71; with_reducible refine (HL.out _).mono ?_; rintro e w1 ⟨rfl, rfl⟩) | (go_at_call 64; with_reducible refine (HRr.out _).mono ?_; rintro e w1 ⟨rfl, rfl⟩) | (go_at_call 64; with_reducible refine (HRl.out _).mono ?_; rintro e w1 ⟨rfl, rfl⟩) | (go_at_call 70; with_reducible refine (HNb.out _).mono ?_; rintro e w1 ⟨rfl, rfl⟩))
            rw [Exit.noGoto_ret]
            obtain ⟨WW, hWW, ⟨e0, e1, e2, e3, e4⟩, hbw⟩ := two_tok w (.int .i64 0) (.int .i64 0) (.int .i64 0) (.string ⟨#[]⟩) (.int .i64 0) (.cells #[.int .i64 0, .int .i64 (b : Int), .int .i64 (b : Int), .string ⟨#[]⟩, .int .i64 0] 52)
            rw [← hWW]
            clear hWW
            exact bodyPost_ret (v := nextV (Tk.zero, b, 2)) (by simp [results, Try.results33, go_sem, nextV, tokV, Tk.zero, bs, e0, e1, e2, e3, e4]) rfl ⟨rfl, hbw⟩
          | true =>
            rw [hl] at HL
            generalize (s.data.toList.drop b).takeWhile Tk.let' = wd at *
            generalize Tk.span Tk.let' (s.data.toList.drop b) = sp at *
            generalize (s.extract b s.size).extract 0 sp = rowB at *
            have hrb : rowB = bs wd := by apply ByteArray.ext; apply Array.ext'; exact hrow
            subst hrb
            have hq1 : ∀ x : List UInt8, ((bs wd).toList == x) = (wd == x) := fun x => by rw [ByteArray.toList_eq]; rfl
            cases hww : Tk.word wd with
            | false =>
              rw [hww, if_neg (by simp)] at hn
              obtain rfl := hn
              unfold Tk.word at hww
              simp only [Bool.or_eq_false_iff] at hww
              obtain ⟨⟨w1, w2⟩, w3⟩ := hww
              have u1 : ((bs wd).toList == [116, 114, 117, 101]) = false := by rw [hq1]; exact w1
              have u2 : ((bs wd).toList == [102, 97, 108, 115, 101]) = false := by rw [hq1]; exact w2
              have u3 : ((bs wd).toList == [110, 117, 108, 108]) = false := by rw [hq1]; exact w3
              clear HN hd hcc hc3 h34 hl hrow hq1 w1 w2 w3
              go_enter Try.func33, Try.ntmps33
              go_wp2
              go_step3
              go_wp2_with (go_at_call 64; with_reducible refine (HB.out _).mono ?_; rintro e w1 ⟨rfl, rfl⟩)
              go_step3
              go_wp2_with (first | (go_at_call 66; with_reducible refine (HI.out _).mono ?_; rintro e w1 ⟨rfl, rfl⟩) | (go_at_call 68; with_reducible refine (HD.out _).mono ?_; rintro e w1 ⟨rfl, rfl⟩) | (go_at_call 71; with_reducible refine (HL.out _).mono ?_; rintro e w1 ⟨rfl, rfl⟩) | (go_at_call 64; with_reducible refine (HRr.out _).mono ?_; rintro e w1 ⟨rfl, rfl⟩) | (go_at_call 64; with_reducible refine (HRl.out _).mono ?_; rintro e w1 ⟨rfl, rfl⟩) | (go_at_call 70; with_reducible refine (HNb.out _).mono ?_; rintro e w1 ⟨rfl, rfl⟩))
              rw [Exit.noGoto_ret]
              obtain ⟨WW, hWW, ⟨e0, e1, e2, e3, e4⟩, hbw⟩ := two_tok w (.int .i64 0) (.int .i64 0) (.int .i64 0) (.string ⟨#[]⟩) (.int .i64 0) (.cells #[.int .i64 9, .int .i64 (b : Int), .int .i64 ((b : Int) + (sp : Int)), str wd, .int .i64 0] 52)
              rw [← hWW]
              clear hWW
              exact bodyPost_ret (v := nextV (Tk.zero, b, 2)) (by simp [results, Try.results33, go_sem, nextV, tokV, Tk.zero, bs, e0, e1, e2, e3, e4]) rfl ⟨rfl, hbw⟩
            | true =>
              rw [hww, if_pos rfl] at hn
              obtain rfl := hn
              unfold Tk.word at hww
              have hw3 : (wd == [116, 114, 117, 101]) = true ∨ ((wd == [116, 114, 117, 101]) = false ∧ (wd == [102, 97, 108, 115, 101]) = true) ∨ ((wd == [116, 114, 117, 101]) = false ∧ (wd == [102, 97, 108, 115, 101]) = false ∧ (wd == [110, 117, 108, 108]) = true) := by
                cases x1 : (wd == [116, 114, 117, 101]) with
                | true => exact .inl rfl
                | false =>
                  cases x2 : (wd == [102, 97, 108, 115, 101]) with
                  | true => exact .inr (.inl ⟨rfl, rfl⟩)
                  | false =>
                    rw [x1, x2] at hww
                    exact .inr (.inr ⟨rfl, rfl, by simpa using hww⟩)
              rcases hw3 with x1 | ⟨x1, x2⟩ | ⟨x1, x2, x3⟩
              · have u1 : ((bs wd).toList == [116, 114, 117, 101]) = true := by rw [hq1]; exact x1
                clear HN hd hcc hc3 h34 hl hrow hq1 hww x1
                go_enter Try.func33, Try.ntmps33
                go_wp2
                go_step3
                go_wp2_with (go_at_call 64; with_reducible refine (HB.out _).mono ?_; rintro e w1 ⟨rfl, rfl⟩)
                go_step3
                go_wp2_with (first | (go_at_call 66; with_reducible refine (HI.out _).mono ?_; rintro e w1 ⟨rfl, rfl⟩) | (go_at_call 68; with_reducible refine (HD.out _).mono ?_; rintro e w1 ⟨rfl, rfl⟩) | (go_at_call 71; with_reducible refine (HL.out _).mono ?_; rintro e w1 ⟨rfl, rfl⟩) | (go_at_call 64; with_reducible refine (HRr.out _).mono ?_; rintro e w1 ⟨rfl, rfl⟩) | (go_at_call 64; with_reducible refine (HRl.out _).mono ?_; rintro e w1 ⟨rfl, rfl⟩) | (go_at_call 70; with_reducible refine (HNb.out _).mono ?_; rintro e w1 ⟨rfl, rfl⟩))
                go_region
                go_wp2
                rw [Exit.noGoto_ret]
                obtain ⟨WW, hWW, ⟨e0, e1, e2, e3, e4⟩, hbw⟩ := two_tokd w (.int .i64 9) (.int .i64 (b : Int)) (.int .i64 ((b : Int) + (sp : Int))) (str wd) (.int .i64 0) (.cells #[.int .i64 9, .int .i64 (b : Int), .int .i64 ((b : Int) + (sp : Int)), (str wd), .int .i64 0] 52)
                rw [← hWW]
                clear hWW
                exact bodyPost_ret (v := nextV (⟨9, b, b + sp, wd, 0⟩, b + sp, 0)) (by simp [results, Try.results33, go_sem, nextV, tokV, bs, e0, e1, e2, e3, e4]) rfl ⟨rfl, hbw⟩
              · have u1 : ((bs wd).toList == [116, 114, 117, 101]) = false := by rw [hq1]; exact x1
                have u2 : ((bs wd).toList == [102, 97, 108, 115, 101]) = true := by rw [hq1]; exact x2
                clear HN hd hcc hc3 h34 hl hrow hq1 hww x1 x2
                go_enter Try.func33, Try.ntmps33
                go_wp2
                go_step3
                go_wp2_with (go_at_call 64; with_reducible refine (HB.out _).mono ?_; rintro e w1 ⟨rfl, rfl⟩)
                go_step3
                go_wp2_with (first | (go_at_call 66; with_reducible refine (HI.out _).mono ?_; rintro e w1 ⟨rfl, rfl⟩) | (go_at_call 68; with_reducible refine (HD.out _).mono ?_; rintro e w1 ⟨rfl, rfl⟩) | (go_at_call 71; with_reducible refine (HL.out _).mono ?_; rintro e w1 ⟨rfl, rfl⟩) | (go_at_call 64; with_reducible refine (HRr.out _).mono ?_; rintro e w1 ⟨rfl, rfl⟩) | (go_at_call 64; with_reducible refine (HRl.out _).mono ?_; rintro e w1 ⟨rfl, rfl⟩) | (go_at_call 70; with_reducible refine (HNb.out _).mono ?_; rintro e w1 ⟨rfl, rfl⟩))
                go_region
                go_wp2
                rw [Exit.noGoto_ret]
                obtain ⟨WW, hWW, ⟨e0, e1, e2, e3, e4⟩, hbw⟩ := two_tokd w (.int .i64 9) (.int .i64 (b : Int)) (.int .i64 ((b : Int) + (sp : Int))) (str wd) (.int .i64 0) (.cells #[.int .i64 9, .int .i64 (b : Int), .int .i64 ((b : Int) + (sp : Int)), (str wd), .int .i64 0] 52)
                rw [← hWW]
                clear hWW
                exact bodyPost_ret (v := nextV (⟨9, b, b + sp, wd, 0⟩, b + sp, 0)) (by simp [results, Try.results33, go_sem, nextV, tokV, bs, e0, e1, e2, e3, e4]) rfl ⟨rfl, hbw⟩
              · have u1 : ((bs wd).toList == [116, 114, 117, 101]) = false := by rw [hq1]; exact x1
                have u2 : ((bs wd).toList == [102, 97, 108, 115, 101]) = false := by rw [hq1]; exact x2
                have u3 : ((bs wd).toList == [110, 117, 108, 108]) = true := by rw [hq1]; exact x3
                clear HN hd hcc hc3 h34 hl hrow hq1 hww x1 x2 x3
                go_enter Try.func33, Try.ntmps33
                go_wp2
                go_step3
                go_wp2_with (go_at_call 64; with_reducible refine (HB.out _).mono ?_; rintro e w1 ⟨rfl, rfl⟩)
                go_step3
                go_wp2_with (first | (go_at_call 66; with_reducible refine (HI.out _).mono ?_; rintro e w1 ⟨rfl, rfl⟩) | (go_at_call 68; with_reducible refine (HD.out _).mono ?_; rintro e w1 ⟨rfl, rfl⟩) | (go_at_call 71; with_reducible refine (HL.out _).mono ?_; rintro e w1 ⟨rfl, rfl⟩) | (go_at_call 64; with_reducible refine (HRr.out _).mono ?_; rintro e w1 ⟨rfl, rfl⟩) | (go_at_call 64; with_reducible refine (HRl.out _).mono ?_; rintro e w1 ⟨rfl, rfl⟩) | (go_at_call 70; with_reducible refine (HNb.out _).mono ?_; rintro e w1 ⟨rfl, rfl⟩))
                go_region
                go_wp2
                rw [Exit.noGoto_ret]
                obtain ⟨WW, hWW, ⟨e0, e1, e2, e3, e4⟩, hbw⟩ := two_tokd w (.int .i64 9) (.int .i64 (b : Int)) (.int .i64 ((b : Int) + (sp : Int))) (str wd) (.int .i64 0) (.cells #[.int .i64 9, .int .i64 (b : Int), .int .i64 ((b : Int) + (sp : Int)), (str wd), .int .i64 0] 52)
                rw [← hWW]
                clear hWW
                exact bodyPost_ret (v := nextV (⟨9, b, b + sp, wd, 0⟩, b + sp, 0)) (by simp [results, Try.results33, go_sem, nextV, tokV, bs, e0, e1, e2, e3, e4]) rfl ⟨rfl, hbw⟩
    · rw [if_neg hq] at hmk
      rw [← hmk.2] at hn
      dsimp only at hn
      obtain ⟨hq5, _⟩ := hmk
      obtain ⟨j, rfl⟩ := Int.eq_ofNat_of_zero_le (show 0 ≤ q by omega)
      have hj : ((j : Int)).toNat = j := by omega
      rw [hj] at hn
      obtain rfl := hn
      clear HN hd hcc hc3 hj hq
      go_enter Try.func33, Try.ntmps33
      go_wp2
      go_step3
      go_wp2_with (go_at_call 64; with_reducible refine (HB.out _).mono ?_; rintro e w1 ⟨rfl, rfl⟩)
      go_step3
      go_wp2_with (first | (go_at_call 66; with_reducible refine (HI.out _).mono ?_; rintro e w1 ⟨rfl, rfl⟩) | (go_at_call 68; with_reducible refine (HD.out _).mono ?_; rintro e w1 ⟨rfl, rfl⟩) | (go_at_call 71; with_reducible refine (HL.out _).mono ?_; rintro e w1 ⟨rfl, rfl⟩) | (go_at_call 64; with_reducible refine (HRr.out _).mono ?_; rintro e w1 ⟨rfl, rfl⟩) | (go_at_call 64; with_reducible refine (HRl.out _).mono ?_; rintro e w1 ⟨rfl, rfl⟩) | (go_at_call 70; with_reducible refine (HNb.out _).mono ?_; rintro e w1 ⟨rfl, rfl⟩))
      go_region
      go_wp2
      rw [Exit.noGoto_ret]
      obtain ⟨WW, hWW, ⟨e0, e1, e2, e3, e4⟩, hbw⟩ := two_tokd w (.int .i64 (1 + (j : Int))) (.int .i64 (b : Int)) (.int .i64 ((b : Int) + 1)) (.string ⟨#[]⟩) (.int .i64 0) (.cells #[.int .i64 (1 + (j : Int)), .int .i64 (b : Int), .int .i64 ((b : Int) + 1), (.string ⟨#[]⟩), .int .i64 0] 52)
      rw [← hWW]
      clear hWW
      exact bodyPost_ret (v := nextV (⟨1 + j, b, b + 1, [], 0⟩, b + 1, 0)) (by simp [results, Try.results33, go_sem, nextV, tokV, bs, e0, e1, e2, e3, e4]) rfl ⟨rfl, hbw⟩
  · have hbe : b = s.size := by omega
    subst hbe
    have hd : s.data.toList.drop s.size = [] := List.drop_eq_nil_of_le (by rw [len_data]; omega)
    have hn := HN.out
    rw [hd, Tk.tok] at hn
    obtain rfl := hn
    clear HN hd
    go_enter Try.func33, Try.ntmps33
    go_wp2
    go_step3
    go_wp2_with (go_at_call 64; with_reducible refine (HB.out _).mono ?_; rintro e w1 ⟨rfl, rfl⟩)
    rw [Exit.noGoto_ret]
    obtain ⟨WW, hWW, ⟨e0, e1, e2, e3, e4⟩, hbw⟩ := two_tok w (.int .i64 0) (.int .i64 (s.size : Int)) (.int .i64 (s.size : Int)) (.string ⟨#[]⟩) (.int .i64 0) (.cells #[.int .i64 0, .int .i64 (s.size : Int), .int .i64 (s.size : Int), .string ⟨#[]⟩, .int .i64 0] 52)
    rw [← hWW]
    clear hWW
    exact bodyPost_ret (v := nextV (⟨0, s.size, s.size, [], 0⟩, s.size, 0)) (by simp [results, Try.results33, go_sem, nextV, tokV, bs, e0, e1, e2, e3, e4]) rfl ⟨rfl, hbw⟩

end Go.Proofs.Ythbpkmmnoeikoaa
