/-
  The reference's Next: the token at a place (Tk.next). Condition: the text is shorter than 2^32 bytes.
-/
import Derived.Test.YthbpkmmnoeikoaaTokRNumJm
import Derived.Test.YthbpkmmnoeikoaaJm24
import Derived.Test.YthbpkmmnoeikoaaTokNextJm
namespace Go.Proofs.Ythbpkmmnoeikoaa
open Go Go.RowKit
set_option linter.unusedVariables false
set_option linter.unusedSimpArgs false

theorem of256 {P : UInt8 → Prop} (h : ∀ n : Nat, n < 256 → P (UInt8.ofNat n)) (c : UInt8) : P c := by
  have := h c.toNat c.toNat_lt
  rwa [show UInt8.ofNat c.toNat = c by simp] at this
theorem in_blank (c : UInt8) : (⟨#[32, 9, 10, 13]⟩ : ByteArray).data.toList.contains c = Tk.blank c := by
  refine of256 (P := fun c => (⟨#[32, 9, 10, 13]⟩ : ByteArray).data.toList.contains c = Tk.blank c) ?_ c
  decide +kernel
theorem in_num (c : UInt8) : (⟨#[45, 48, 49, 50, 51, 52, 53, 54, 55, 56, 57]⟩ : ByteArray).data.toList.contains c = (Tk.dig c || c == 45) := by
  refine of256 (P := fun c => (⟨#[45, 48, 49, 50, 51, 52, 53, 54, 55, 56, 57]⟩ : ByteArray).data.toList.contains c = (Tk.dig c || c == 45)) ?_ c
  decide +kernel
theorem in_numc (c : UInt8) : (⟨#[45, 43, 46, 101, 69, 48, 49, 50, 51, 52, 53, 54, 55, 56, 57]⟩ : ByteArray).data.toList.contains c = Tk.numc c := by
  refine of256 (P := fun c => (⟨#[45, 43, 46, 101, 69, 48, 49, 50, 51, 52, 53, 54, 55, 56, 57]⟩ : ByteArray).data.toList.contains c = Tk.numc c) ?_ c
  decide +kernel
theorem mark_is (c : UInt8) : (Tk.mark c = none ∧ ∀ i, i < 6 → marks[i]? ≠ some c) ∨ ∃ j, j < 6 ∧ Tk.mark c = some (1 + j) ∧ marks[j]? = some c ∧ ∀ i, i < j → marks[i]? ≠ some c := by
  by_cases h : Tk.mark c = none
  · refine .inl ⟨h, ?_⟩
    have key : ∀ c : UInt8, Tk.mark c = none → marks.contains c = false := by
      refine of256 ?_
      decide +kernel
    have hk := key c h
    intro i hi e
    have hm : c ∈ marks := List.mem_of_getElem? e
    rw [List.contains_eq_mem, decide_eq_false_iff_not] at hk
    exact hk hm
  · refine .inr ?_
    have key : ∀ c : UInt8, Tk.mark c ≠ none → c = 91 ∨ c = 93 ∨ c = 123 ∨ c = 125 ∨ c = 58 ∨ c = 44 := by
      refine of256 ?_
      decide +kernel
    rcases key c h with rfl | rfl | rfl | rfl | rfl | rfl
    · exact ⟨0, by decide, by decide, by decide, by decide⟩
    · exact ⟨1, by decide, by decide, by decide, by decide⟩
    · exact ⟨2, by decide, by decide, by decide, by decide⟩
    · exact ⟨3, by decide, by decide, by decide, by decide⟩
    · exact ⟨4, by decide, by decide, by decide, by decide⟩
    · exact ⟨5, by decide, by decide, by decide, by decide⟩

theorem span_at (p : UInt8 → Bool) (s : ByteArray) (k : Nat) (h : k < s.size) : Tk.span p (s.data.toList.drop k) = if p s[k] then Tk.span p (s.data.toList.drop (k + 1)) + 1 else 0 := by
  rw [drop_cons s k h]; exact Tk.span_cons _ _ _
theorem span_end (p : UInt8 → Bool) (s : ByteArray) (k : Nat) (h : ¬ k < s.size) : Tk.span p (s.data.toList.drop k) = 0 := by
  rw [List.drop_eq_nil_of_le (by rw [len_data]; omega)]; rfl

set_option maxRecDepth 100000 in
set_option maxHeartbeats 2000000 in
theorem rnext_out (s : ByteArray) (at1 : Int) (w : World) (ha : at1 < 0 ∨ (s.size : Int) < at1) :
    Calls Try.prog 34 #[.string s, .int .i64 at1] w fun e w' => e = .returned (.tuple #[tokV Tk.zero, .int .i64 at1, .int .i64 1]) ∧ Below w.heap.size w w' := by
  have hh := heap_alloc_new w (.cells #[.int .i64 0, .int .i64 0, .int .i64 0, .string ⟨#[]⟩, .int .i64 0] 52)
  rcases ha with ha | ha
  · have t0 : decide (at1 < 0) = true := decide_eq_true ha
    go_enter Try.func34, Try.ntmps34
    go_wp2
    obtain ⟨WW, hWW, ⟨e0, e1, e2, e3, e4⟩, hbw⟩ := two_tok w (.int .i64 0) (.int .i64 0) (.int .i64 0) (.string ⟨#[]⟩) (.int .i64 0) (.cells #[.int .i64 0, .int .i64 0, .int .i64 0, .string ⟨#[]⟩, .int .i64 0] 52)
    rw [← hWW]
    clear hWW
    exact bodyPost_ret (v := .tuple #[tokV Tk.zero, .int .i64 at1, .int .i64 1]) (by simp [results, Try.results34, go_sem, tokV, Tk.zero, bs, e0, e1, e2, e3, e4]) rfl ⟨rfl, hbw⟩
  · have t0 : decide (at1 < 0) = false := decide_eq_false (by omega)
    have t1 : decide (at1 > (s.size : Int)) = true := decide_eq_true (by omega)
    go_enter Try.func34, Try.ntmps34
    go_wp2
    obtain ⟨WW, hWW, ⟨e0, e1, e2, e3, e4⟩, hbw⟩ := two_tok w (.int .i64 0) (.int .i64 0) (.int .i64 0) (.string ⟨#[]⟩) (.int .i64 0) (.cells #[.int .i64 0, .int .i64 0, .int .i64 0, .string ⟨#[]⟩, .int .i64 0] 52)
    rw [← hWW]
    clear hWW
    exact bodyPost_ret (v := .tuple #[tokV Tk.zero, .int .i64 at1, .int .i64 1]) (by simp [results, Try.results34, go_sem, tokV, Tk.zero, bs, e0, e1, e2, e3, e4]) rfl ⟨rfl, hbw⟩

/-- the world while the reference looks at a token: its result, and its token -/
structure TokW (w : World) (b : Nat) (W : World) : Prop where
  res : W.heap[w.heap.size]? = some (.cells #[.int .i64 0, .int .i64 0, .int .i64 0, .string ⟨#[]⟩, .int .i64 0] 52 (0, 0))
  tok : W.heap[w.heap.size + 1]? = some (.cells #[.int .i64 0, .int .i64 (b : Int), .int .i64 (b : Int), .string ⟨#[]⟩, .int .i64 0] 52 (0, 0))
  below : Below w.heap.size w W
theorem TokW.start (w : World) (b : Nat) : TokW w b ((w.alloc (.cells #[.int .i64 0, .int .i64 0, .int .i64 0, .string ⟨#[]⟩, .int .i64 0] 52)).alloc (.cells #[.int .i64 0, .int .i64 (b : Int), .int .i64 (b : Int), .string ⟨#[]⟩, .int .i64 0] 52)) := by
  obtain ⟨h1, h2, _, _, h3⟩ := two_after (Below.refl _ ((w.alloc (.cells #[.int .i64 0, .int .i64 0, .int .i64 0, .string ⟨#[]⟩, .int .i64 0] 52)).alloc (.cells #[.int .i64 0, .int .i64 (b : Int), .int .i64 (b : Int), .string ⟨#[]⟩, .int .i64 0] 52)))
  exact ⟨h1, h2, h3⟩
theorem TokW.drew {w W : World} {b : Nat} (h : TokW w b W) : TokW w b W.drew := ⟨h.res, h.tok, h.below.drew⟩
theorem lt_of_some {w : World} {b : Nat} {o : Obj} (h : w.heap[b]? = some o) : b < w.heap.size := (Array.getElem?_eq_some_iff.1 h).1
theorem TokW.after {w W W2 : World} {b : Nat} (h : TokW w b W) (hb : Below W.heap.size W W2) : TokW w b W2 :=
  ⟨(hb.block _ (lt_of_some h.res)).trans h.res, (hb.block _ (lt_of_some h.tok)).trans h.tok, h.below.trans (hb.mono (Nat.le_of_lt (lt_of_some h.res)))⟩
theorem tok_set1 {W : World} {b c n₀ : Nat} {t : TypeId} {o : Obj} {u0 u1 u2 u3 u4 : Value} (h : W.heap[b]? = some (.cells #[u0, u1, u2, u3, u4] t (0, 0))) (hc : W.heap[c]? = some o) (hne : b ≠ c) (hn : n₀ ≤ b) (v0 : Value) :
    ∃ WW, WW = (W.setCell ⟨b, 0, none⟩ v0).drew ∧ WW.heap[b]? = some (.cells #[v0, u1, u2, u3, u4] t (0, 0)) ∧ WW.heap[c]? = some o ∧ Below n₀ W WW :=
  ⟨_, rfl, row_set h 0 v0, row_other hc hne 0 v0, ((Below.refl n₀ W).setCell (p := ⟨b, 0, none⟩) hn v0).drew⟩
theorem tok_set1b {W : World} {b c n₀ : Nat} {t : TypeId} {o : Obj} {u0 u1 u2 u3 u4 : Value} (h : W.heap[b]? = some (.cells #[u0, u1, u2, u3, u4] t (0, 0))) (hc : W.heap[c]? = some o) (hne : b ≠ c) (hn : n₀ ≤ b) (v2 : Value) :
    ∃ WW, WW = W.setCell ⟨b, 2, none⟩ v2 ∧ WW.heap[b]? = some (.cells #[u0, u1, v2, u3, u4] t (0, 0)) ∧ WW.heap[c]? = some o ∧ Below n₀ W WW :=
  ⟨_, rfl, row_set h 2 v2, row_other hc hne 2 v2, (Below.refl n₀ W).setCell (p := ⟨b, 2, none⟩) hn v2⟩
theorem tok_set2 {W : World} {b c n₀ : Nat} {t : TypeId} {o : Obj} {u0 u1 u2 u3 u4 : Value} (h : W.heap[b]? = some (.cells #[u0, u1, u2, u3, u4] t (0, 0))) (hc : W.heap[c]? = some o) (hne : b ≠ c) (hn : n₀ ≤ b) (v0 v2 : Value) :
    ∃ WW, WW = ((W.setCell ⟨b, 0, none⟩ v0).setCell ⟨b, 2, none⟩ v2) ∧ WW.heap[b]? = some (.cells #[v0, u1, v2, u3, u4] t (0, 0)) ∧ WW.heap[c]? = some o ∧ Below n₀ W WW :=
  ⟨_, rfl, row_set (row_set h 0 v0) 2 v2, row_other (row_other hc hne 0 v0) hne 2 v2, ((Below.refl n₀ W).setCell (p := ⟨b, 0, none⟩) hn v0).setCell (p := ⟨b, 2, none⟩) hn v2⟩

def MkR (w : World) (b j : Nat) (i : Value) (W : World) : Prop := ∃ k : Int, 0 ≤ k ∧ k ≤ (j : Int) ∧ i = .int .i64 k ∧ TokW w b W
def SpR (p : UInt8 → Bool) (s : ByteArray) (n : Nat) (i : Value) : Prop := ∃ k : Nat, k ≤ s.size ∧ i = .int .i64 k ∧ Hid (n = k + Tk.span p (s.data.toList.drop k))

set_option maxRecDepth 100000 in
set_option maxHeartbeats 16000000 in
theorem rnext_pos (s : ByteArray) (a : Nat) (w : World) (hs : s.size ≤ 4294967280) (ha : a ≤ s.size) :
    Calls Try.prog 34 #[.string s, .int .i64 (a : Int)] w fun e w' => e = .returned (nextV (Tk.next s.data.toList a)) ∧ Below w.heap.size w w' := by
  have HIB : Hid (∀ c W, Calls Try.prog 72 #[.int .u8 (c.toNat : Int), .string ⟨#[32, 9, 10, 13]⟩] W fun e w' => e = .returned (.bool (Tk.blank c)) ∧ W = w') := fun c W => by rw [← in_blank c]; exact rin_any c ⟨#[32, 9, 10, 13]⟩ W (by simp [ByteArray.size])
  have HIN : Hid (∀ c W, Calls Try.prog 72 #[.int .u8 (c.toNat : Int), .string ⟨#[45, 48, 49, 50, 51, 52, 53, 54, 55, 56, 57]⟩] W fun e w' => e = .returned (.bool (Tk.dig c || c == 45)) ∧ W = w') := fun c W => by rw [← in_num c]; exact rin_any c ⟨#[45, 48, 49, 50, 51, 52, 53, 54, 55, 56, 57]⟩ W (by simp [ByteArray.size])
  have HIC : Hid (∀ c W, Calls Try.prog 72 #[.int .u8 (c.toNat : Int), .string ⟨#[45, 43, 46, 101, 69, 48, 49, 50, 51, 52, 53, 54, 55, 56, 57]⟩] W fun e w' => e = .returned (.bool (Tk.numc c)) ∧ W = w') := fun c W => by rw [← in_numc c]; exact rin_any c ⟨#[45, 43, 46, 101, 69, 48, 49, 50, 51, 52, 53, 54, 55, 56, 57]⟩ W (by simp [ByteArray.size])
  have ta : decide ((a : Int) > (s.size : Int)) = false := decide_eq_false (by omega)
  have ta2 : decide (s.size < a) = false := decide_eq_false (by omega)
  obtain ⟨b, hb⟩ : ∃ b, b = a + Tk.span Tk.blank (s.data.toList.drop a) := ⟨_, rfl⟩
  unfold Tk.next
  rw [← hb]
  have HB := Lib.hid hb
  clear hb
  obtain ⟨N, hN⟩ : ∃ N, N = Tk.tok b (s.data.toList.drop b) := ⟨_, rfl⟩
  rw [← hN]
  have HN := Lib.hid hN
  clear hN
  have hh1 := heap_alloc_new w (.cells #[.int .i64 0, .int .i64 0, .int .i64 0, .string ⟨#[]⟩, .int .i64 0] 52)
  go_enter Try.func34, Try.ntmps34
  go_wp2
  go_loop [1] (SpR Tk.blank s b) (fun n => s.size - (intOf n).toNat)
  case atStart => exact ⟨a, ha, rfl, HB⟩
  case round =>
    obtain ⟨k, hk, rfl, HR⟩ := hrel
    clear HB
    by_cases hlt : k < s.size
    · have tl : decide ((k : Int) < (s.size : Int)) = true := decide_eq_true (by omega)
      have hsp := span_at Tk.blank s k hlt
      have HI := Lib.hid (fun W => HIB.out s[k] W)
      have hr := HR.out
      cases hbl : Tk.blank s[k] with
      | true =>
        rw [hbl] at HI hsp
        rw [hsp, if_pos rfl] at hr
        have HR2 : Hid (b = (k + 1) + Tk.span Tk.blank (s.data.toList.drop (k + 1))) := by unfold Hid; omega
        clear hr HR hsp hbl HN HIN HIC HIB
        go_wp2_with (go_at_call 72; with_reducible refine (HI.out _).mono ?_; rintro e w1 ⟨rfl, rfl⟩)
        go_round
        case rel => exact ⟨k + 1, by omega, by go_num, HR2⟩
        case measure => simp [intOf]; omega
      | false =>
        rw [hbl] at HI hsp
        rw [hsp] at hr
        obtain rfl : b = k := by simpa using hr
        clear hr HR hsp hbl HIB
        have te : ((b : Int) == (s.size : Int)) = false := beq_eq_false_iff_ne.2 (by omega)
        have hd : s.data.toList.drop b = s[b] :: s.data.toList.drop (b + 1) := (List.getElem_cons_drop (by rw [len_data]; exact hlt)).symm
        have hn := HN.out
        rw [hd, Tk.tok] at hn
        go_wp2_with (go_at_call 72; with_reducible refine (HI.out _).mono ?_; rintro e w1 ⟨rfl, rfl⟩)
        rcases mark_is s[b] with ⟨hmk, hmn⟩ | ⟨j, hj, hmk, hmj, hml⟩
        · rw [hmk] at hn
          dsimp only at hn
          clear HN HI hmk
          go_loopw [9] (MkR w b 6) (fun n _ => 6 - (intOf n).toNat)
          case atStart => exact ⟨0, by omega, by omega, rfl, TokW.start w b⟩
          case round =>
            obtain ⟨i, hi0, hi, rfl, hTW⟩ := hrel
            by_cases hi6 : i < 6
            · have hne := hmn i.toNat (by omega)
              rcases (by omega : i = 0 ∨ i = 1 ∨ i = 2 ∨ i = 3 ∨ i = 4 ∨ i = 5) with rfl | rfl | rfl | rfl | rfl | rfl
              · have tm : ((s[b].toNat : Int) == 91) = false := by rw [byte_eqb s[b] 91 91 rfl]; exact decide_eq_false (fun e => hne (by rw [e]; rfl))
                have tq : (((({ data := #[91, 93, 123, 125, 58, 44] } : ByteArray)[0]'(by simp [ByteArray.size])).toNat : Int)) = 91 := rfl
                clear hne hn HIC HIN hd
                go_wp2
                go_region
                go_wp2
                go_roundw
                case rel => exact ⟨1, by omega, by omega, by go_num, hTW.drew⟩
                case measure => simp [intOf]
              · have tm : ((s[b].toNat : Int) == 93) = false := by rw [byte_eqb s[b] 93 93 rfl]; exact decide_eq_false (fun e => hne (by rw [e]; rfl))
                have tq : (((({ data := #[91, 93, 123, 125, 58, 44] } : ByteArray)[1]'(by simp [ByteArray.size])).toNat : Int)) = 93 := rfl
                clear hne hn HIC HIN hd
                go_wp2
                go_region
                go_wp2
                go_roundw
                case rel => exact ⟨2, by omega, by omega, by go_num, hTW.drew⟩
                case measure => simp [intOf]
              · have tm : ((s[b].toNat : Int) == 123) = false := by rw [byte_eqb s[b] 123 123 rfl]; exact decide_eq_false (fun e => hne (by rw [e]; rfl))
                have tq : (((({ data := #[91, 93, 123, 125, 58, 44] } : ByteArray)[2]'(by simp [ByteArray.size])).toNat : Int)) = 123 := rfl
                clear hne hn HIC HIN hd
                go_wp2
                go_region
                go_wp2
                go_roundw
                case rel => exact ⟨3, by omega, by omega, by go_num, hTW.drew⟩
                case measure => simp [intOf]
              · have tm : ((s[b].toNat : Int) == 125) = false := by rw [byte_eqb s[b] 125 125 rfl]; exact decide_eq_false (fun e => hne (by rw [e]; rfl))
                have tq : (((({ data := #[91, 93, 123, 125, 58, 44] } : ByteArray)[3]'(by simp [ByteArray.size])).toNat : Int)) = 125 := rfl
                clear hne hn HIC HIN hd
                go_wp2
                go_region
                go_wp2
                go_roundw
                case rel => exact ⟨4, by omega, by omega, by go_num, hTW.drew⟩
                case measure => simp [intOf]
              · have tm : ((s[b].toNat : Int) == 58) = false := by rw [byte_eqb s[b] 58 58 rfl]; exact decide_eq_false (fun e => hne (by rw [e]; rfl))
                have tq : (((({ data := #[91, 93, 123, 125, 58, 44] } : ByteArray)[4]'(by simp [ByteArray.size])).toNat : Int)) = 58 := rfl
                clear hne hn HIC HIN hd
                go_wp2
                go_region
                go_wp2
                go_roundw
                case rel => exact ⟨5, by omega, by omega, by go_num, hTW.drew⟩
                case measure => simp [intOf]
              · have tm : ((s[b].toNat : Int) == 44) = false := by rw [byte_eqb s[b] 44 44 rfl]; exact decide_eq_false (fun e => hne (by rw [e]; rfl))
                have tq : (((({ data := #[91, 93, 123, 125, 58, 44] } : ByteArray)[5]'(by simp [ByteArray.size])).toNat : Int)) = 44 := rfl
                clear hne hn HIC HIN hd
                go_wp2
                go_region
                go_wp2
                go_roundw
                case rel => exact ⟨6, by omega, by omega, by go_num, hTW.drew⟩
                case measure => simp [intOf]
            · obtain rfl : i = 6 := by omega
              clear hmn hi6 hi hi0
              obtain ⟨x0, x1, x2, x3, x4⟩ := tok_cells hTW.res
              obtain ⟨y0, y1, y2, y3, y4⟩ := tok_cells hTW.tok
              obtain ⟨m0, m1, m2, m3, m4⟩ := tok_frozen hTW.res
              obtain ⟨g0, g1, g2, g3, g4⟩ := tok_frozen hTW.tok
              by_cases h34 : s[b] = 34
              · rw [if_pos h34] at hn
                have t34 : ((s[b].toNat : Int) == 34) = true := by rw [h34]; rfl
                have hrl : (s.data.toList.drop (b + 1)).length + 1 = s.size - (b + 1) + 1 := by rw [List.length_drop, len_data]
                have hX := fun W => rtext_any s (b + 1) W hs (by omega)
                rw [hrl] at hn
                generalize Tk.txt (s.size - (b + 1) + 1) (s.data.toList.drop (b + 1)) [] = P at *
                obtain ⟨x, e0, ok⟩ := P
                unfold txtV ab at hX
                dsimp only at hX hn
                have hce : ((b + 1 + e0 : Nat) : Int) = (b : Int) + 1 + (e0 : Int) := by omega
                have hcb : ((b + 1 : Nat) : Int) = (b : Int) + 1 := by omega
                rw [hce, hcb] at hX
                have HX := Lib.hid hX
                clear hX hd h34 hrl HIC HIN
                cases ok with
                | false =>
                  rw [if_neg (by simp)] at hn
                  obtain rfl := hn
                  go_wp2_with (go_at_call 73; with_reducible refine (HX.out _).mono ?_; rintro e w2 ⟨rfl, hb2⟩; have hTW2 := hTW.after hb2; clear x0 x1 x2 x3 x4 y0 y1 y2 y3 y4 g0 g1 g2 g3 g4 m0 m1 m2 m3 m4; obtain ⟨x0, x1, x2, x3, x4⟩ := tok_cells hTW2.res; obtain ⟨m0, m1, m2, m3, m4⟩ := tok_frozen hTW2.res)
                  obtain ⟨WW, hWW, hk, hbb⟩ := tok_set5 (W := _) hTW2.res (Nat.le_refl _) (.int .i64 0) (.int .i64 0) (.int .i64 0) (.string ⟨#[]⟩) (.int .i64 0)
                  rw [← hWW]
                  clear hWW
                  obtain ⟨z0, z1, z2, z3, z4⟩ := tok_cells hk
                  exact bodyPost_ret (v := nextV (Tk.zero, b + 1 + e0, 2)) (by simp [results, Try.results34, go_sem, nextV, tokV, Tk.zero, bs, z0, z1, z2, z3, z4]) rfl ⟨rfl, (hTW2.below).trans hbb⟩
                | true =>
                  rw [if_pos rfl] at hn
                  obtain rfl := hn
                  go_wp2_with (go_at_call 73; with_reducible refine (HX.out _).mono ?_; rintro e w2 ⟨rfl, hb2⟩; have hTW2 := hTW.after hb2; clear x0 x1 x2 x3 x4 y0 y1 y2 y3 y4 g0 g1 g2 g3 g4 m0 m1 m2 m3 m4; obtain ⟨x0, x1, x2, x3, x4⟩ := tok_cells hTW2.res; obtain ⟨m0, m1, m2, m3, m4⟩ := tok_frozen hTW2.res)
                  obtain ⟨WW, hWW, hk, hbb⟩ := tok_set5 (W := _) hTW2.res (Nat.le_refl _) (.int .i64 7) (.int .i64 (b : Int)) (.int .i64 ((b : Int) + 1 + (e0 : Int))) (str x) (.int .i64 0)
                  rw [← hWW]
                  clear hWW
                  obtain ⟨z0, z1, z2, z3, z4⟩ := tok_cells hk
                  exact bodyPost_ret (v := nextV (⟨7, b, b + 1 + e0, x, 0⟩, b + 1 + e0, 0)) (by simp [results, Try.results34, go_sem, nextV, tokV, Tk.zero, bs, z0, z1, z2, z3, z4]) rfl ⟨rfl, (hTW2.below).trans hbb⟩
              rw [if_neg h34] at hn
              have t34 : ((s[b].toNat : Int) == 34) = false := by rw [byte_eqb s[b] 34 34 rfl]; exact decide_eq_false h34
              have HI2 := Lib.hid (fun W => HIN.out s[b] W)
              rw [← hd] at hn
              clear hd h34 HIN
              by_cases hdg : Tk.dig s[b] = true ∨ s[b] = 45
              · rw [if_pos hdg] at hn
                have hq : (Tk.dig s[b] || s[b] == 45) = true := by rcases hdg with h | h <;> simp [h]
                rw [hq] at HI2
                clear hq hdg
                have hspn : Tk.span Tk.numc (s.data.toList.drop b) ≤ s.size - b := by
                  have := Tk.span_le Tk.numc (s.data.toList.drop b)
                  rw [List.length_drop, len_data] at this; exact this
                have hrow : (s.extract b (b + Tk.span Tk.numc (s.data.toList.drop b))).data.toList = (s.data.toList.drop b).takeWhile Tk.numc := by rw [ext_take, Tk.span_take]
                obtain ⟨q, hq⟩ : ∃ q, q = b + Tk.span Tk.numc (s.data.toList.drop b) := ⟨_, rfl⟩
                rw [← hrow, ← hq] at hn
                have hqs : q ≤ s.size := by omega
                have hbq : b ≤ q := by omega
                have HQ := Lib.hid hq
                clear hq hspn hrow
                have HNb := Lib.hid (fun W => rnumber_any (s.extract b q) W (by rw [ByteArray.size_extract]; omega))
                generalize Tk.number (s.extract b q).data.toList = V at *
                obtain ⟨v, er⟩ := V
                unfold numV at HNb
                dsimp only at HNb hn
                go_wp2_with (go_at_call 72; with_reducible refine (HI2.out _).mono ?_; rintro e w1 ⟨rfl, rfl⟩)
                go_loop [13] (SpR Tk.numc s q) (fun n => s.size - (intOf n).toNat)
                case atStart => exact ⟨b, by omega, rfl, HQ⟩
                case round =>
                  obtain ⟨k, hk, rfl, HR⟩ := hrel
                  clear HQ
                  have hr := HR.out
                  by_cases hlk : k < s.size
                  · have tl2 : decide ((k : Int) < (s.size : Int)) = true := decide_eq_true (by omega)
                    have hsp := span_at Tk.numc s k hlk
                    have HI3 := Lib.hid (fun W => HIC.out s[k] W)
                    cases hnc : Tk.numc s[k] with
                    | true =>
                      rw [hnc] at HI3 hsp
                      rw [hsp, if_pos rfl] at hr
                      have HR2 : Hid (q = (k + 1) + Tk.span Tk.numc (s.data.toList.drop (k + 1))) := by unfold Hid; omega
                      clear hr HR hsp hnc HIC HNb hn
                      go_wp2_with (go_at_call 72; with_reducible refine (HI3.out _).mono ?_; rintro e w1 ⟨rfl, rfl⟩)
                      go_round
                      case rel => exact ⟨k + 1, by omega, by go_num, HR2⟩
                      case measure => simp [intOf]; omega
                    | false =>
                      rw [hnc] at HI3 hsp
                      rw [hsp] at hr
                      obtain rfl : q = k := by simpa using hr
                      clear hr HR hsp hnc HIC
                      have tbq : (b : Int) ≤ (q : Int) := by omega
                      have tqs : (q : Int) ≤ (s.size : Int) := by omega
                      by_cases her : er = 0
                      · subst her
                        rw [if_neg (by simp)] at hn
                        obtain rfl := hn
                        go_wp2_with (first | (go_at_call 72; with_reducible refine (HI3.out _).mono ?_; rintro e w1 ⟨rfl, rfl⟩) | (go_at_call 74; with_reducible refine (HNb.out _).mono ?_; rintro e w1 ⟨rfl, rfl⟩))
                        obtain ⟨WW, hWW, hk, hbb⟩ := tok_set5 (W := _) hTW.res (Nat.le_refl _) (.int .i64 8) (.int .i64 (b : Int)) (.int .i64 (q : Int)) (.string ⟨#[]⟩) (.int .i64 v)
                        rw [← hWW]
                        clear hWW
                        obtain ⟨z0, z1, z2, z3, z4⟩ := tok_cells hk
                        exact bodyPost_ret (v := nextV (⟨8, b, q, [], v⟩, q, 0)) (by simp [results, Try.results34, go_sem, nextV, tokV, Tk.zero, bs, z0, z1, z2, z3, z4]) rfl ⟨rfl, (hTW.below).trans hbb⟩
                      · rw [if_pos her] at hn
                        have ter : (er == 0) = false := beq_eq_false_iff_ne.2 her
                        obtain rfl := hn
                        go_wp2_with (first | (go_at_call 72; with_reducible refine (HI3.out _).mono ?_; rintro e w1 ⟨rfl, rfl⟩) | (go_at_call 74; with_reducible refine (HNb.out _).mono ?_; rintro e w1 ⟨rfl, rfl⟩))
                        obtain ⟨WW, hWW, hk, hbb⟩ := tok_set5 (W := _) hTW.res (Nat.le_refl _) (.int .i64 0) (.int .i64 0) (.int .i64 0) (.string ⟨#[]⟩) (.int .i64 0)
                        rw [← hWW]
                        clear hWW
                        obtain ⟨z0, z1, z2, z3, z4⟩ := tok_cells hk
                        exact bodyPost_ret (v := nextV (Tk.zero, b, er)) (by simp [results, Try.results34, go_sem, nextV, tokV, Tk.zero, bs, z0, z1, z2, z3, z4]) rfl ⟨rfl, (hTW.below).trans hbb⟩
                  · have tl2 : decide ((k : Int) < (s.size : Int)) = false := decide_eq_false (by omega)
                    rw [span_end Tk.numc s k hlk] at hr
                    obtain rfl : q = k := by simpa using hr
                    clear hr HR HIC
                    have tbq : (b : Int) ≤ (q : Int) := by omega
                    have tqs : (q : Int) ≤ (s.size : Int) := by omega
                    by_cases her : er = 0
                    · subst her
                      rw [if_neg (by simp)] at hn
                      obtain rfl := hn
                      go_wp2_with (go_at_call 74; with_reducible refine (HNb.out _).mono ?_; rintro e w1 ⟨rfl, rfl⟩)
                      obtain ⟨WW, hWW, hk, hbb⟩ := tok_set5 (W := _) hTW.res (Nat.le_refl _) (.int .i64 8) (.int .i64 (b : Int)) (.int .i64 (q : Int)) (.string ⟨#[]⟩) (.int .i64 v)
                      rw [← hWW]
                      clear hWW
                      obtain ⟨z0, z1, z2, z3, z4⟩ := tok_cells hk
                      exact bodyPost_ret (v := nextV (⟨8, b, q, [], v⟩, q, 0)) (by simp [results, Try.results34, go_sem, nextV, tokV, Tk.zero, bs, z0, z1, z2, z3, z4]) rfl ⟨rfl, (hTW.below).trans hbb⟩
                    · rw [if_pos her] at hn
                      have ter : (er == 0) = false := beq_eq_false_iff_ne.2 her
                      obtain rfl := hn
                      go_wp2_with (go_at_call 74; with_reducible refine (HNb.out _).mono ?_; rintro e w1 ⟨rfl, rfl⟩)
                      obtain ⟨WW, hWW, hk, hbb⟩ := tok_set5 (W := _) hTW.res (Nat.le_refl _) (.int .i64 0) (.int .i64 0) (.int .i64 0) (.string ⟨#[]⟩) (.int .i64 0)
                      rw [← hWW]
                      clear hWW
                      obtain ⟨z0, z1, z2, z3, z4⟩ := tok_cells hk
                      exact bodyPost_ret (v := nextV (Tk.zero, b, er)) (by simp [results, Try.results34, go_sem, nextV, tokV, Tk.zero, bs, z0, z1, z2, z3, z4]) rfl ⟨rfl, (hTW.below).trans hbb⟩
              · rw [if_neg hdg] at hn
                have hq : (Tk.dig s[b] || s[b] == 45) = false := by
                  rw [Bool.or_eq_false_iff]
                  exact ⟨by simpa using fun h => hdg (.inl h), beq_eq_false_iff_ne.2 (fun h => hdg (.inr h))⟩
                rw [hq] at HI2
                clear hq hdg HIC
                have hspn : Tk.span Tk.let' (s.data.toList.drop b) ≤ s.size - b := by
                  have := Tk.span_le Tk.let' (s.data.toList.drop b)
                  rw [List.length_drop, len_data] at this; exact this
                have hrow : (s.extract b (b + Tk.span Tk.let' (s.data.toList.drop b))).data.toList = (s.data.toList.drop b).takeWhile Tk.let' := by rw [ext_take, Tk.span_take]
                obtain ⟨q, hq⟩ : ∃ q, q = b + Tk.span Tk.let' (s.data.toList.drop b) := ⟨_, rfl⟩
                rw [← hrow, ← hq] at hn
                have hqs : q ≤ s.size := by omega
                have hbq : b ≤ q := by omega
                have HQ := Lib.hid hq
                clear hq hspn hrow
                have hql : (s.extract b q).toList = (s.extract b q).data.toList := ByteArray.toList_eq _
                obtain ⟨wd, hwd⟩ : ∃ wd, wd = s.extract b q := ⟨_, rfl⟩
                rw [← hwd] at hn hql
                have HWD := Lib.hid hwd.symm
                clear hwd
                go_wp2_with (go_at_call 72; with_reducible refine (HI2.out _).mono ?_; rintro e w1 ⟨rfl, rfl⟩)
                go_loop [13] (SpR Tk.let' s q) (fun n => s.size - (intOf n).toNat)
                case atStart => exact ⟨b, by omega, rfl, HQ⟩
                case round =>
                  obtain ⟨k, hk, rfl, HR⟩ := hrel
                  clear HQ
                  have hr := HR.out
                  by_cases hlk : k < s.size
                  · have tl2 : decide ((k : Int) < (s.size : Int)) = true := decide_eq_true (by omega)
                    have hsp := span_at Tk.let' s k hlk
                    by_cases hlet : Tk.let' s[k] = true
                    · rw [hlet, if_pos rfl] at hsp
                      rw [hsp] at hr
                      have HR2 : Hid (q = (k + 1) + Tk.span Tk.let' (s.data.toList.drop (k + 1))) := by unfold Hid; omega
                      have hl := of_decide_eq_true hlet
                      clear hr HR hsp hlet hn HWD hql
                      rcases hl with ⟨l1, l2⟩ | ⟨l1, l2⟩
                      · have c1 : decide ((s[k].toNat : Int) ≥ 97) = true := decide_eq_true (by omega)
                        have c2 : decide ((s[k].toNat : Int) ≤ 122) = true := decide_eq_true (by omega)
                        clear l1 l2
                        go_wp2
                        go_round
                        case rel => exact ⟨k + 1, by omega, by go_num, HR2⟩
                        case measure => simp [intOf]; omega
                      · have c1 : decide ((s[k].toNat : Int) ≥ 97) = false := decide_eq_false (by omega)
                        have c2 : decide ((s[k].toNat : Int) ≥ 65) = true := decide_eq_true (by omega)
                        have c3 : decide ((s[k].toNat : Int) ≤ 90) = true := decide_eq_true (by omega)
                        clear l1 l2
                        go_wp2
                        go_round
                        case rel => exact ⟨k + 1, by omega, by go_num, HR2⟩
                        case measure => simp [intOf]; omega
                    · rw [if_neg hlet] at hsp
                      rw [hsp] at hr
                      obtain rfl : q = k := by simpa using hr
                      have hl : ¬ ((97 ≤ s[q].toNat ∧ s[q].toNat ≤ 122) ∨ (65 ≤ s[q].toNat ∧ s[q].toNat ≤ 90)) := fun h => hlet (decide_eq_true h)
                      clear hr HR hsp hlet
                      have hw := HWD.out
                      have tbq : (b : Int) ≤ (q : Int) := by omega
                      have tqs : (q : Int) ≤ (s.size : Int) := by omega
                      clear HWD
                      rcases (by omega : s[q].toNat < 65 ∨ (90 < s[q].toNat ∧ s[q].toNat < 97) ∨ 122 < s[q].toNat) with l1 | ⟨l1, l2⟩ | l1
                      · have c1 : decide ((s[q].toNat : Int) ≥ 97) = false := decide_eq_false (by omega)
                        have c2 : decide ((s[q].toNat : Int) ≥ 65) = false := decide_eq_false (by omega)
                        clear hl l1
                        have hwdw : Tk.word wd.data.toList = (wd.toList == [116, 114, 117, 101] || wd.toList == [102, 97, 108, 115, 101] || wd.toList == [110, 117, 108, 108]) := by rw [hql]; rfl
                        rw [hwdw] at hn
                        clear hwdw hql
                        cases u1 : (wd.toList == [116, 114, 117, 101]) with
                        | true =>
                          rw [if_pos (by simp [u1])] at hn
                          obtain rfl := hn
                          go_wp2
                          obtain ⟨WW, hWW, hk, hbb⟩ := tok_set5 (W := _) hTW.res (Nat.le_refl _) (.int .i64 9) (.int .i64 (b : Int)) (.int .i64 (q : Int)) (.string wd) (.int .i64 0)
                          rw [← hWW]
                          clear hWW
                          obtain ⟨z0, z1, z2, z3, z4⟩ := tok_cells hk
                          exact bodyPost_ret (v := nextV (⟨9, b, q, wd.data.toList, 0⟩, q, 0)) (by simp [results, Try.results34, go_sem, nextV, tokV, Tk.zero, bs, z0, z1, z2, z3, z4]) rfl ⟨rfl, (hTW.below).trans hbb⟩
                        | false =>
                          cases u2 : (wd.toList == [102, 97, 108, 115, 101]) with
                          | true =>
                            rw [if_pos (by simp [u1, u2])] at hn
                            obtain rfl := hn
                            go_wp2
                            obtain ⟨WW, hWW, hk, hbb⟩ := tok_set5 (W := _) hTW.res (Nat.le_refl _) (.int .i64 9) (.int .i64 (b : Int)) (.int .i64 (q : Int)) (.string wd) (.int .i64 0)
                            rw [← hWW]
                            clear hWW
                            obtain ⟨z0, z1, z2, z3, z4⟩ := tok_cells hk
                            exact bodyPost_ret (v := nextV (⟨9, b, q, wd.data.toList, 0⟩, q, 0)) (by simp [results, Try.results34, go_sem, nextV, tokV, Tk.zero, bs, z0, z1, z2, z3, z4]) rfl ⟨rfl, (hTW.below).trans hbb⟩
                          | false =>
                            cases u3 : (wd.toList == [110, 117, 108, 108]) with
                            | true =>
                              rw [if_pos (by simp [u1, u2, u3])] at hn
                              obtain rfl := hn
                              go_wp2
                              obtain ⟨WW, hWW, hk, hbb⟩ := tok_set5 (W := _) hTW.res (Nat.le_refl _) (.int .i64 9) (.int .i64 (b : Int)) (.int .i64 (q : Int)) (.string wd) (.int .i64 0)
                              rw [← hWW]
                              clear hWW
                              obtain ⟨z0, z1, z2, z3, z4⟩ := tok_cells hk
                              exact bodyPost_ret (v := nextV (⟨9, b, q, wd.data.toList, 0⟩, q, 0)) (by simp [results, Try.results34, go_sem, nextV, tokV, Tk.zero, bs, z0, z1, z2, z3, z4]) rfl ⟨rfl, (hTW.below).trans hbb⟩
                            | false =>
                              rw [if_neg (by simp [u1, u2, u3])] at hn
                              obtain rfl := hn
                              go_wp2
                              obtain ⟨WW, hWW, hk, hbb⟩ := tok_set5 (W := _) hTW.res (Nat.le_refl _) (.int .i64 0) (.int .i64 0) (.int .i64 0) (.string ⟨#[]⟩) (.int .i64 0)
                              rw [← hWW]
                              clear hWW
                              obtain ⟨z0, z1, z2, z3, z4⟩ := tok_cells hk
                              exact bodyPost_ret (v := nextV (Tk.zero, b, 2)) (by simp [results, Try.results34, go_sem, nextV, tokV, Tk.zero, bs, z0, z1, z2, z3, z4]) rfl ⟨rfl, (hTW.below).trans hbb⟩
                      · have c1 : decide ((s[q].toNat : Int) ≥ 97) = false := decide_eq_false (by omega)
                        have c2 : decide ((s[q].toNat : Int) ≥ 65) = true := decide_eq_true (by omega)
                        have c3 : decide ((s[q].toNat : Int) ≤ 90) = false := decide_eq_false (by omega)
                        clear hl l1 l2
                        have hwdw : Tk.word wd.data.toList = (wd.toList == [116, 114, 117, 101] || wd.toList == [102, 97, 108, 115, 101] || wd.toList == [110, 117, 108, 108]) := by rw [hql]; rfl
                        rw [hwdw] at hn
                        clear hwdw hql
                        cases u1 : (wd.toList == [116, 114, 117, 101]) with
                        | true =>
                          rw [if_pos (by simp [u1])] at hn
                          obtain rfl := hn
                          go_wp2
                          obtain ⟨WW, hWW, hk, hbb⟩ := tok_set5 (W := _) hTW.res (Nat.le_refl _) (.int .i64 9) (.int .i64 (b : Int)) (.int .i64 (q : Int)) (.string wd) (.int .i64 0)
                          rw [← hWW]
                          clear hWW
                          obtain ⟨z0, z1, z2, z3, z4⟩ := tok_cells hk
                          exact bodyPost_ret (v := nextV (⟨9, b, q, wd.data.toList, 0⟩, q, 0)) (by simp [results, Try.results34, go_sem, nextV, tokV, Tk.zero, bs, z0, z1, z2, z3, z4]) rfl ⟨rfl, (hTW.below).trans hbb⟩
                        | false =>
                          cases u2 : (wd.toList == [102, 97, 108, 115, 101]) with
                          | true =>
                            rw [if_pos (by simp [u1, u2])] at hn
                            obtain rfl := hn
                            go_wp2
                            obtain ⟨WW, hWW, hk, hbb⟩ := tok_set5 (W := _) hTW.res (Nat.le_refl _) (.int .i64 9) (.int .i64 (b : Int)) (.int .i64 (q : Int)) (.string wd) (.int .i64 0)
                            rw [← hWW]
                            clear hWW
                            obtain ⟨z0, z1, z2, z3, z4⟩ := tok_cells hk
                            exact bodyPost_ret (v := nextV (⟨9, b, q, wd.data.toList, 0⟩, q, 0)) (by simp [results, Try.results34, go_sem, nextV, tokV, Tk.zero, bs, z0, z1, z2, z3, z4]) rfl ⟨rfl, (hTW.below).trans hbb⟩
                          | false =>
                            cases u3 : (wd.toList == [110, 117, 108, 108]) with
                            | true =>
                              rw [if_pos (by simp [u1, u2, u3])] at hn
                              obtain rfl := hn
                              go_wp2
                              obtain ⟨WW, hWW, hk, hbb⟩ := tok_set5 (W := _) hTW.res (Nat.le_refl _) (.int .i64 9) (.int .i64 (b : Int)) (.int .i64 (q : Int)) (.string wd) (.int .i64 0)
                              rw [← hWW]
                              clear hWW
                              obtain ⟨z0, z1, z2, z3, z4⟩ := tok_cells hk
                              exact bodyPost_ret (v := nextV (⟨9, b, q, wd.data.toList, 0⟩, q, 0)) (by simp [results, Try.results34, go_sem, nextV, tokV, Tk.zero, bs, z0, z1, z2, z3, z4]) rfl ⟨rfl, (hTW.below).trans hbb⟩
                            | false =>
                              rw [if_neg (by simp [u1, u2, u3])] at hn
                              obtain rfl := hn
                              go_wp2
                              obtain ⟨WW, hWW, hk, hbb⟩ := tok_set5 (W := _) hTW.res (Nat.le_refl _) (.int .i64 0) (.int .i64 0) (.int .i64 0) (.string ⟨#[]⟩) (.int .i64 0)
                              rw [← hWW]
                              clear hWW
                              obtain ⟨z0, z1, z2, z3, z4⟩ := tok_cells hk
                              exact bodyPost_ret (v := nextV (Tk.zero, b, 2)) (by simp [results, Try.results34, go_sem, nextV, tokV, Tk.zero, bs, z0, z1, z2, z3, z4]) rfl ⟨rfl, (hTW.below).trans hbb⟩
                      · have c1 : decide ((s[q].toNat : Int) ≥ 97) = true := decide_eq_true (by omega)
                        have c2 : decide ((s[q].toNat : Int) ≤ 122) = false := decide_eq_false (by omega)
                        have c4 : decide ((s[q].toNat : Int) ≥ 65) = true := decide_eq_true (by omega)
                        have c3 : decide ((s[q].toNat : Int) ≤ 90) = false := decide_eq_false (by omega)
                        clear hl l1
                        have hwdw : Tk.word wd.data.toList = (wd.toList == [116, 114, 117, 101] || wd.toList == [102, 97, 108, 115, 101] || wd.toList == [110, 117, 108, 108]) := by rw [hql]; rfl
                        rw [hwdw] at hn
                        clear hwdw hql
                        cases u1 : (wd.toList == [116, 114, 117, 101]) with
                        | true =>
                          rw [if_pos (by simp [u1])] at hn
                          obtain rfl := hn
                          go_wp2
                          obtain ⟨WW, hWW, hk, hbb⟩ := tok_set5 (W := _) hTW.res (Nat.le_refl _) (.int .i64 9) (.int .i64 (b : Int)) (.int .i64 (q : Int)) (.string wd) (.int .i64 0)
                          rw [← hWW]
                          clear hWW
                          obtain ⟨z0, z1, z2, z3, z4⟩ := tok_cells hk
                          exact bodyPost_ret (v := nextV (⟨9, b, q, wd.data.toList, 0⟩, q, 0)) (by simp [results, Try.results34, go_sem, nextV, tokV, Tk.zero, bs, z0, z1, z2, z3, z4]) rfl ⟨rfl, (hTW.below).trans hbb⟩
                        | false =>
                          cases u2 : (wd.toList == [102, 97, 108, 115, 101]) with
                          | true =>
                            rw [if_pos (by simp [u1, u2])] at hn
                            obtain rfl := hn
                            go_wp2
                            obtain ⟨WW, hWW, hk, hbb⟩ := tok_set5 (W := _) hTW.res (Nat.le_refl _) (.int .i64 9) (.int .i64 (b : Int)) (.int .i64 (q : Int)) (.string wd) (.int .i64 0)
                            rw [← hWW]
                            clear hWW
                            obtain ⟨z0, z1, z2, z3, z4⟩ := tok_cells hk
                            exact bodyPost_ret (v := nextV (⟨9, b, q, wd.data.toList, 0⟩, q, 0)) (by simp [results, Try.results34, go_sem, nextV, tokV, Tk.zero, bs, z0, z1, z2, z3, z4]) rfl ⟨rfl, (hTW.below).trans hbb⟩
                          | false =>
                            cases u3 : (wd.toList == [110, 117, 108, 108]) with
                            | true =>
                              rw [if_pos (by simp [u1, u2, u3])] at hn
                              obtain rfl := hn
                              go_wp2
                              obtain ⟨WW, hWW, hk, hbb⟩ := tok_set5 (W := _) hTW.res (Nat.le_refl _) (.int .i64 9) (.int .i64 (b : Int)) (.int .i64 (q : Int)) (.string wd) (.int .i64 0)
                              rw [← hWW]
                              clear hWW
                              obtain ⟨z0, z1, z2, z3, z4⟩ := tok_cells hk
                              exact bodyPost_ret (v := nextV (⟨9, b, q, wd.data.toList, 0⟩, q, 0)) (by simp [results, Try.results34, go_sem, nextV, tokV, Tk.zero, bs, z0, z1, z2, z3, z4]) rfl ⟨rfl, (hTW.below).trans hbb⟩
                            | false =>
                              rw [if_neg (by simp [u1, u2, u3])] at hn
                              obtain rfl := hn
                              go_wp2
                              obtain ⟨WW, hWW, hk, hbb⟩ := tok_set5 (W := _) hTW.res (Nat.le_refl _) (.int .i64 0) (.int .i64 0) (.int .i64 0) (.string ⟨#[]⟩) (.int .i64 0)
                              rw [← hWW]
                              clear hWW
                              obtain ⟨z0, z1, z2, z3, z4⟩ := tok_cells hk
                              exact bodyPost_ret (v := nextV (Tk.zero, b, 2)) (by simp [results, Try.results34, go_sem, nextV, tokV, Tk.zero, bs, z0, z1, z2, z3, z4]) rfl ⟨rfl, (hTW.below).trans hbb⟩
                  · have tl2 : decide ((k : Int) < (s.size : Int)) = false := decide_eq_false (by omega)
                    rw [span_end Tk.let' s k hlk] at hr
                    obtain rfl : q = k := by simpa using hr
                    have hw := HWD.out
                    have tbq : (b : Int) ≤ (q : Int) := by omega
                    have tqs : (q : Int) ≤ (s.size : Int) := by omega
                    clear hr HR HWD
                    have hwdw : Tk.word wd.data.toList = (wd.toList == [116, 114, 117, 101] || wd.toList == [102, 97, 108, 115, 101] || wd.toList == [110, 117, 108, 108]) := by rw [hql]; rfl
                    rw [hwdw] at hn
                    clear hwdw hql
                    cases u1 : (wd.toList == [116, 114, 117, 101]) with
                    | true =>
                      rw [if_pos (by simp [u1])] at hn
                      obtain rfl := hn
                      go_wp2
                      obtain ⟨WW, hWW, hk, hbb⟩ := tok_set5 (W := _) hTW.res (Nat.le_refl _) (.int .i64 9) (.int .i64 (b : Int)) (.int .i64 (q : Int)) (.string wd) (.int .i64 0)
                      rw [← hWW]
                      clear hWW
                      obtain ⟨z0, z1, z2, z3, z4⟩ := tok_cells hk
                      exact bodyPost_ret (v := nextV (⟨9, b, q, wd.data.toList, 0⟩, q, 0)) (by simp [results, Try.results34, go_sem, nextV, tokV, Tk.zero, bs, z0, z1, z2, z3, z4]) rfl ⟨rfl, (hTW.below).trans hbb⟩
                    | false =>
                      cases u2 : (wd.toList == [102, 97, 108, 115, 101]) with
                      | true =>
                        rw [if_pos (by simp [u1, u2])] at hn
                        obtain rfl := hn
                        go_wp2
                        obtain ⟨WW, hWW, hk, hbb⟩ := tok_set5 (W := _) hTW.res (Nat.le_refl _) (.int .i64 9) (.int .i64 (b : Int)) (.int .i64 (q : Int)) (.string wd) (.int .i64 0)
                        rw [← hWW]
                        clear hWW
                        obtain ⟨z0, z1, z2, z3, z4⟩ := tok_cells hk
                        exact bodyPost_ret (v := nextV (⟨9, b, q, wd.data.toList, 0⟩, q, 0)) (by simp [results, Try.results34, go_sem, nextV, tokV, Tk.zero, bs, z0, z1, z2, z3, z4]) rfl ⟨rfl, (hTW.below).trans hbb⟩
                      | false =>
                        cases u3 : (wd.toList == [110, 117, 108, 108]) with
                        | true =>
                          rw [if_pos (by simp [u1, u2, u3])] at hn
                          obtain rfl := hn
                          go_wp2
                          obtain ⟨WW, hWW, hk, hbb⟩ := tok_set5 (W := _) hTW.res (Nat.le_refl _) (.int .i64 9) (.int .i64 (b : Int)) (.int .i64 (q : Int)) (.string wd) (.int .i64 0)
                          rw [← hWW]
                          clear hWW
                          obtain ⟨z0, z1, z2, z3, z4⟩ := tok_cells hk
                          exact bodyPost_ret (v := nextV (⟨9, b, q, wd.data.toList, 0⟩, q, 0)) (by simp [results, Try.results34, go_sem, nextV, tokV, Tk.zero, bs, z0, z1, z2, z3, z4]) rfl ⟨rfl, (hTW.below).trans hbb⟩
                        | false =>
                          rw [if_neg (by simp [u1, u2, u3])] at hn
                          obtain rfl := hn
                          go_wp2
                          obtain ⟨WW, hWW, hk, hbb⟩ := tok_set5 (W := _) hTW.res (Nat.le_refl _) (.int .i64 0) (.int .i64 0) (.int .i64 0) (.string ⟨#[]⟩) (.int .i64 0)
                          rw [← hWW]
                          clear hWW
                          obtain ⟨z0, z1, z2, z3, z4⟩ := tok_cells hk
                          exact bodyPost_ret (v := nextV (Tk.zero, b, 2)) (by simp [results, Try.results34, go_sem, nextV, tokV, Tk.zero, bs, z0, z1, z2, z3, z4]) rfl ⟨rfl, (hTW.below).trans hbb⟩
        · rw [hmk] at hn
          dsimp only at hn
          clear HN HI hmk HIC HIN hd
          obtain rfl := hn
          go_loopw [9] (MkR w b j) (fun n _ => 6 - (intOf n).toNat)
          case atStart => exact ⟨0, by omega, by omega, rfl, TokW.start w b⟩
          case round =>
            obtain ⟨i, hi0, hi, rfl, hTW⟩ := hrel
            by_cases hij : i < (j : Int)
            · have hne := hml i.toNat (by omega)
              rcases (by omega : i = 0 ∨ i = 1 ∨ i = 2 ∨ i = 3 ∨ i = 4) with rfl | rfl | rfl | rfl | rfl
              · have tm : ((s[b].toNat : Int) == 91) = false := by rw [byte_eqb s[b] 91 91 rfl]; exact decide_eq_false (fun e => hne (by rw [e]; rfl))
                have tq : (((({ data := #[91, 93, 123, 125, 58, 44] } : ByteArray)[0]'(by simp [ByteArray.size])).toNat : Int)) = 91 := rfl
                clear hne hmj hml
                go_wp2
                go_region
                go_wp2
                go_roundw
                case rel => exact ⟨1, by omega, by omega, by go_num, hTW.drew⟩
                case measure => simp [intOf]
              · have tm : ((s[b].toNat : Int) == 93) = false := by rw [byte_eqb s[b] 93 93 rfl]; exact decide_eq_false (fun e => hne (by rw [e]; rfl))
                have tq : (((({ data := #[91, 93, 123, 125, 58, 44] } : ByteArray)[1]'(by simp [ByteArray.size])).toNat : Int)) = 93 := rfl
                clear hne hmj hml
                go_wp2
                go_region
                go_wp2
                go_roundw
                case rel => exact ⟨2, by omega, by omega, by go_num, hTW.drew⟩
                case measure => simp [intOf]
              · have tm : ((s[b].toNat : Int) == 123) = false := by rw [byte_eqb s[b] 123 123 rfl]; exact decide_eq_false (fun e => hne (by rw [e]; rfl))
                have tq : (((({ data := #[91, 93, 123, 125, 58, 44] } : ByteArray)[2]'(by simp [ByteArray.size])).toNat : Int)) = 123 := rfl
                clear hne hmj hml
                go_wp2
                go_region
                go_wp2
                go_roundw
                case rel => exact ⟨3, by omega, by omega, by go_num, hTW.drew⟩
                case measure => simp [intOf]
              · have tm : ((s[b].toNat : Int) == 125) = false := by rw [byte_eqb s[b] 125 125 rfl]; exact decide_eq_false (fun e => hne (by rw [e]; rfl))
                have tq : (((({ data := #[91, 93, 123, 125, 58, 44] } : ByteArray)[3]'(by simp [ByteArray.size])).toNat : Int)) = 125 := rfl
                clear hne hmj hml
                go_wp2
                go_region
                go_wp2
                go_roundw
                case rel => exact ⟨4, by omega, by omega, by go_num, hTW.drew⟩
                case measure => simp [intOf]
              · have tm : ((s[b].toNat : Int) == 58) = false := by rw [byte_eqb s[b] 58 58 rfl]; exact decide_eq_false (fun e => hne (by rw [e]; rfl))
                have tq : (((({ data := #[91, 93, 123, 125, 58, 44] } : ByteArray)[4]'(by simp [ByteArray.size])).toNat : Int)) = 58 := rfl
                clear hne hmj hml
                go_wp2
                go_region
                go_wp2
                go_roundw
                case rel => exact ⟨5, by omega, by omega, by go_num, hTW.drew⟩
                case measure => simp [intOf]
            · obtain rfl : i = (j : Int) := by omega
              clear hml hij hi hi0
              obtain ⟨x0, x1, x2, x3, x4⟩ := tok_cells hTW.res
              obtain ⟨y0, y1, y2, y3, y4⟩ := tok_cells hTW.tok
              obtain ⟨m0, m1, m2, m3, m4⟩ := tok_frozen hTW.res
              obtain ⟨g0, g1, g2, g3, g4⟩ := tok_frozen hTW.tok
              obtain ⟨i, hi⟩ : ∃ i : Int, i = (j : Int) := ⟨_, rfl⟩
              rw [← hi]
              rcases (by omega : i = 0 ∨ i = 1 ∨ i = 2 ∨ i = 3 ∨ i = 4 ∨ i = 5) with rfl | rfl | rfl | rfl | rfl | rfl
              · obtain rfl : j = 0 := by omega
                have tm : ((s[b].toNat : Int) == 91) = true := by rw [byte_eqb s[b] 91 91 rfl]; exact decide_eq_true (by simpa [marks] using hmj.symm)
                have tq : (((({ data := #[91, 93, 123, 125, 58, 44] } : ByteArray)[0]'(by simp [ByteArray.size])).toNat : Int)) = 91 := rfl
                clear hmj hi
                go_wp2
                go_region
                go_upto_region 16 with fail
                obtain ⟨W2, hW2, h27, h24, hb2⟩ := tok_set1 hTW.tok hTW.res (by omega) (show w.heap.size ≤ w.heap.size + 1 by omega) (.int .i64 1)
                rw [← hW2]
                clear hW2 x0 x1 x2 x3 x4 y0 y1 y2 y3 y4 g0 g1 g2 g3 g4 m0 m1 m2 m3 m4
                obtain ⟨y0, y1, y2, y3, y4⟩ := tok_cells h27
                obtain ⟨x0, x1, x2, x3, x4⟩ := tok_cells h24
                obtain ⟨m0, m1, m2, m3, m4⟩ := tok_frozen h24
                obtain ⟨g0, g1, g2, g3, g4⟩ := tok_frozen h27
                go_upto_region 17 with fail
                obtain ⟨W3, hW3, hk7, hk4, hb3⟩ := tok_set1b h27 h24 (by omega) (show w.heap.size ≤ w.heap.size + 1 by omega) (.int .i64 ((b : Int) + 1))
                rw [← hW3]
                clear hW3 x0 x1 x2 x3 x4 y0 y1 y2 y3 y4 g0 g1 g2 g3 g4 m0 m1 m2 m3 m4
                obtain ⟨y0, y1, y2, y3, y4⟩ := tok_cells hk7
                obtain ⟨x0, x1, x2, x3, x4⟩ := tok_cells hk4
                obtain ⟨g0, g1, g2, g3, g4⟩ := tok_frozen hk4
                go_wp2
                obtain ⟨WW, hWW, hk, hbb⟩ := tok_set5 (W := _) hk4 (Nat.le_refl _) (.int .i64 1) (.int .i64 (b : Int)) (.int .i64 ((b : Int) + 1)) (.string ⟨#[]⟩) (.int .i64 0)
                rw [← hWW]
                clear hWW
                obtain ⟨z0, z1, z2, z3, z4⟩ := tok_cells hk
                exact bodyPost_ret (v := nextV (⟨1 + 0, b, b + 1, [], 0⟩, b + 1, 0)) (by simp [results, Try.results34, go_sem, nextV, tokV, Tk.zero, bs, z0, z1, z2, z3, z4]) rfl ⟨rfl, ((hTW.below.trans hb2).trans hb3).trans hbb⟩
              · obtain rfl : j = 1 := by omega
                have tm : ((s[b].toNat : Int) == 93) = true := by rw [byte_eqb s[b] 93 93 rfl]; exact decide_eq_true (by simpa [marks] using hmj.symm)
                have tq : (((({ data := #[91, 93, 123, 125, 58, 44] } : ByteArray)[1]'(by simp [ByteArray.size])).toNat : Int)) = 93 := rfl
                clear hmj hi
                go_wp2
                go_region
                go_upto_region 16 with fail
                obtain ⟨W2, hW2, h27, h24, hb2⟩ := tok_set1 hTW.tok hTW.res (by omega) (show w.heap.size ≤ w.heap.size + 1 by omega) (.int .i64 2)
                rw [← hW2]
                clear hW2 x0 x1 x2 x3 x4 y0 y1 y2 y3 y4 g0 g1 g2 g3 g4 m0 m1 m2 m3 m4
                obtain ⟨y0, y1, y2, y3, y4⟩ := tok_cells h27
                obtain ⟨x0, x1, x2, x3, x4⟩ := tok_cells h24
                obtain ⟨m0, m1, m2, m3, m4⟩ := tok_frozen h24
                obtain ⟨g0, g1, g2, g3, g4⟩ := tok_frozen h27
                go_upto_region 17 with fail
                obtain ⟨W3, hW3, hk7, hk4, hb3⟩ := tok_set1b h27 h24 (by omega) (show w.heap.size ≤ w.heap.size + 1 by omega) (.int .i64 ((b : Int) + 1))
                rw [← hW3]
                clear hW3 x0 x1 x2 x3 x4 y0 y1 y2 y3 y4 g0 g1 g2 g3 g4 m0 m1 m2 m3 m4
                obtain ⟨y0, y1, y2, y3, y4⟩ := tok_cells hk7
                obtain ⟨x0, x1, x2, x3, x4⟩ := tok_cells hk4
                obtain ⟨g0, g1, g2, g3, g4⟩ := tok_frozen hk4
                go_wp2
                obtain ⟨WW, hWW, hk, hbb⟩ := tok_set5 (W := _) hk4 (Nat.le_refl _) (.int .i64 2) (.int .i64 (b : Int)) (.int .i64 ((b : Int) + 1)) (.string ⟨#[]⟩) (.int .i64 0)
                rw [← hWW]
                clear hWW
                obtain ⟨z0, z1, z2, z3, z4⟩ := tok_cells hk
                exact bodyPost_ret (v := nextV (⟨1 + 1, b, b + 1, [], 0⟩, b + 1, 0)) (by simp [results, Try.results34, go_sem, nextV, tokV, Tk.zero, bs, z0, z1, z2, z3, z4]) rfl ⟨rfl, ((hTW.below.trans hb2).trans hb3).trans hbb⟩
              · obtain rfl : j = 2 := by omega
                have tm : ((s[b].toNat : Int) == 123) = true := by rw [byte_eqb s[b] 123 123 rfl]; exact decide_eq_true (by simpa [marks] using hmj.symm)
                have tq : (((({ data := #[91, 93, 123, 125, 58, 44] } : ByteArray)[2]'(by simp [ByteArray.size])).toNat : Int)) = 123 := rfl
                clear hmj hi
                go_wp2
                go_region
                go_upto_region 16 with fail
                obtain ⟨W2, hW2, h27, h24, hb2⟩ := tok_set1 hTW.tok hTW.res (by omega) (show w.heap.size ≤ w.heap.size + 1 by omega) (.int .i64 3)
                rw [← hW2]
                clear hW2 x0 x1 x2 x3 x4 y0 y1 y2 y3 y4 g0 g1 g2 g3 g4 m0 m1 m2 m3 m4
                obtain ⟨y0, y1, y2, y3, y4⟩ := tok_cells h27
                obtain ⟨x0, x1, x2, x3, x4⟩ := tok_cells h24
                obtain ⟨m0, m1, m2, m3, m4⟩ := tok_frozen h24
                obtain ⟨g0, g1, g2, g3, g4⟩ := tok_frozen h27
                go_upto_region 17 with fail
                obtain ⟨W3, hW3, hk7, hk4, hb3⟩ := tok_set1b h27 h24 (by omega) (show w.heap.size ≤ w.heap.size + 1 by omega) (.int .i64 ((b : Int) + 1))
                rw [← hW3]
                clear hW3 x0 x1 x2 x3 x4 y0 y1 y2 y3 y4 g0 g1 g2 g3 g4 m0 m1 m2 m3 m4
                obtain ⟨y0, y1, y2, y3, y4⟩ := tok_cells hk7
                obtain ⟨x0, x1, x2, x3, x4⟩ := tok_cells hk4
                obtain ⟨g0, g1, g2, g3, g4⟩ := tok_frozen hk4
                go_wp2
                obtain ⟨WW, hWW, hk, hbb⟩ := tok_set5 (W := _) hk4 (Nat.le_refl _) (.int .i64 3) (.int .i64 (b : Int)) (.int .i64 ((b : Int) + 1)) (.string ⟨#[]⟩) (.int .i64 0)
                rw [← hWW]
                clear hWW
                obtain ⟨z0, z1, z2, z3, z4⟩ := tok_cells hk
                exact bodyPost_ret (v := nextV (⟨1 + 2, b, b + 1, [], 0⟩, b + 1, 0)) (by simp [results, Try.results34, go_sem, nextV, tokV, Tk.zero, bs, z0, z1, z2, z3, z4]) rfl ⟨rfl, ((hTW.below.trans hb2).trans hb3).trans hbb⟩
              · obtain rfl : j = 3 := by omega
                have tm : ((s[b].toNat : Int) == 125) = true := by rw [byte_eqb s[b] 125 125 rfl]; exact decide_eq_true (by simpa [marks] using hmj.symm)
                have tq : (((({ data := #[91, 93, 123, 125, 58, 44] } : ByteArray)[3]'(by simp [ByteArray.size])).toNat : Int)) = 125 := rfl
                clear hmj hi
                go_wp2
                go_region
                go_upto_region 16 with fail
                obtain ⟨W2, hW2, h27, h24, hb2⟩ := tok_set1 hTW.tok hTW.res (by omega) (show w.heap.size ≤ w.heap.size + 1 by omega) (.int .i64 4)
                rw [← hW2]
                clear hW2 x0 x1 x2 x3 x4 y0 y1 y2 y3 y4 g0 g1 g2 g3 g4 m0 m1 m2 m3 m4
                obtain ⟨y0, y1, y2, y3, y4⟩ := tok_cells h27
                obtain ⟨x0, x1, x2, x3, x4⟩ := tok_cells h24
                obtain ⟨m0, m1, m2, m3, m4⟩ := tok_frozen h24
                obtain ⟨g0, g1, g2, g3, g4⟩ := tok_frozen h27
                go_upto_region 17 with fail
                obtain ⟨W3, hW3, hk7, hk4, hb3⟩ := tok_set1b h27 h24 (by omega) (show w.heap.size ≤ w.heap.size + 1 by omega) (.int .i64 ((b : Int) + 1))
                rw [← hW3]
                clear hW3 x0 x1 x2 x3 x4 y0 y1 y2 y3 y4 g0 g1 g2 g3 g4 m0 m1 m2 m3 m4
                obtain ⟨y0, y1, y2, y3, y4⟩ := tok_cells hk7
                obtain ⟨x0, x1, x2, x3, x4⟩ := tok_cells hk4
                obtain ⟨g0, g1, g2, g3, g4⟩ := tok_frozen hk4
                go_wp2
                obtain ⟨WW, hWW, hk, hbb⟩ := tok_set5 (W := _) hk4 (Nat.le_refl _) (.int .i64 4) (.int .i64 (b : Int)) (.int .i64 ((b : Int) + 1)) (.string ⟨#[]⟩) (.int .i64 0)
                rw [← hWW]
                clear hWW
                obtain ⟨z0, z1, z2, z3, z4⟩ := tok_cells hk
                exact bodyPost_ret (v := nextV (⟨1 + 3, b, b + 1, [], 0⟩, b + 1, 0)) (by simp [results, Try.results34, go_sem, nextV, tokV, Tk.zero, bs, z0, z1, z2, z3, z4]) rfl ⟨rfl, ((hTW.below.trans hb2).trans hb3).trans hbb⟩
              · obtain rfl : j = 4 := by omega
                have tm : ((s[b].toNat : Int) == 58) = true := by rw [byte_eqb s[b] 58 58 rfl]; exact decide_eq_true (by simpa [marks] using hmj.symm)
                have tq : (((({ data := #[91, 93, 123, 125, 58, 44] } : ByteArray)[4]'(by simp [ByteArray.size])).toNat : Int)) = 58 := rfl
                clear hmj hi
                go_wp2
                go_region
                go_upto_region 16 with fail
                obtain ⟨W2, hW2, h27, h24, hb2⟩ := tok_set1 hTW.tok hTW.res (by omega) (show w.heap.size ≤ w.heap.size + 1 by omega) (.int .i64 5)
                rw [← hW2]
                clear hW2 x0 x1 x2 x3 x4 y0 y1 y2 y3 y4 g0 g1 g2 g3 g4 m0 m1 m2 m3 m4
                obtain ⟨y0, y1, y2, y3, y4⟩ := tok_cells h27
                obtain ⟨x0, x1, x2, x3, x4⟩ := tok_cells h24
                obtain ⟨m0, m1, m2, m3, m4⟩ := tok_frozen h24
                obtain ⟨g0, g1, g2, g3, g4⟩ := tok_frozen h27
                go_upto_region 17 with fail
                obtain ⟨W3, hW3, hk7, hk4, hb3⟩ := tok_set1b h27 h24 (by omega) (show w.heap.size ≤ w.heap.size + 1 by omega) (.int .i64 ((b : Int) + 1))
                rw [← hW3]
                clear hW3 x0 x1 x2 x3 x4 y0 y1 y2 y3 y4 g0 g1 g2 g3 g4 m0 m1 m2 m3 m4
                obtain ⟨y0, y1, y2, y3, y4⟩ := tok_cells hk7
                obtain ⟨x0, x1, x2, x3, x4⟩ := tok_cells hk4
                obtain ⟨g0, g1, g2, g3, g4⟩ := tok_frozen hk4
                go_wp2
                obtain ⟨WW, hWW, hk, hbb⟩ := tok_set5 (W := _) hk4 (Nat.le_refl _) (.int .i64 5) (.int .i64 (b : Int)) (.int .i64 ((b : Int) + 1)) (.string ⟨#[]⟩) (.int .i64 0)
                rw [← hWW]
                clear hWW
                obtain ⟨z0, z1, z2, z3, z4⟩ := tok_cells hk
                exact bodyPost_ret (v := nextV (⟨1 + 4, b, b + 1, [], 0⟩, b + 1, 0)) (by simp [results, Try.results34, go_sem, nextV, tokV, Tk.zero, bs, z0, z1, z2, z3, z4]) rfl ⟨rfl, ((hTW.below.trans hb2).trans hb3).trans hbb⟩
              · obtain rfl : j = 5 := by omega
                have tm : ((s[b].toNat : Int) == 44) = true := by rw [byte_eqb s[b] 44 44 rfl]; exact decide_eq_true (by simpa [marks] using hmj.symm)
                have tq : (((({ data := #[91, 93, 123, 125, 58, 44] } : ByteArray)[5]'(by simp [ByteArray.size])).toNat : Int)) = 44 := rfl
                clear hmj hi
                go_wp2
                go_region
                go_upto_region 16 with fail
                obtain ⟨W2, hW2, h27, h24, hb2⟩ := tok_set1 hTW.tok hTW.res (by omega) (show w.heap.size ≤ w.heap.size + 1 by omega) (.int .i64 6)
                rw [← hW2]
                clear hW2 x0 x1 x2 x3 x4 y0 y1 y2 y3 y4 g0 g1 g2 g3 g4 m0 m1 m2 m3 m4
                obtain ⟨y0, y1, y2, y3, y4⟩ := tok_cells h27
                obtain ⟨x0, x1, x2, x3, x4⟩ := tok_cells h24
                obtain ⟨m0, m1, m2, m3, m4⟩ := tok_frozen h24
                obtain ⟨g0, g1, g2, g3, g4⟩ := tok_frozen h27
                go_upto_region 17 with fail
                obtain ⟨W3, hW3, hk7, hk4, hb3⟩ := tok_set1b h27 h24 (by omega) (show w.heap.size ≤ w.heap.size + 1 by omega) (.int .i64 ((b : Int) + 1))
                rw [← hW3]
                clear hW3 x0 x1 x2 x3 x4 y0 y1 y2 y3 y4 g0 g1 g2 g3 g4 m0 m1 m2 m3 m4
                obtain ⟨y0, y1, y2, y3, y4⟩ := tok_cells hk7
                obtain ⟨x0, x1, x2, x3, x4⟩ := tok_cells hk4
                obtain ⟨g0, g1, g2, g3, g4⟩ := tok_frozen hk4
                go_wp2
                obtain ⟨WW, hWW, hk, hbb⟩ := tok_set5 (W := _) hk4 (Nat.le_refl _) (.int .i64 6) (.int .i64 (b : Int)) (.int .i64 ((b : Int) + 1)) (.string ⟨#[]⟩) (.int .i64 0)
                rw [← hWW]
                clear hWW
                obtain ⟨z0, z1, z2, z3, z4⟩ := tok_cells hk
                exact bodyPost_ret (v := nextV (⟨1 + 5, b, b + 1, [], 0⟩, b + 1, 0)) (by simp [results, Try.results34, go_sem, nextV, tokV, Tk.zero, bs, z0, z1, z2, z3, z4]) rfl ⟨rfl, ((hTW.below.trans hb2).trans hb3).trans hbb⟩
    · have hr := HR.out
      rw [span_end Tk.blank s k hlt] at hr
      obtain rfl : b = k := by simpa using hr
      obtain rfl : b = s.size := by omega
      have tl : decide ((s.size : Int) < (s.size : Int)) = false := decide_eq_false (by omega)
      have te : ((s.size : Int) == (s.size : Int)) = true := by simp
      have hd : s.data.toList.drop s.size = [] := List.drop_eq_nil_of_le (by rw [len_data]; omega)
      have hn := HN.out
      rw [hd, Tk.tok] at hn
      obtain rfl := hn
      clear HN hd HR hr HIB HIN HIC
      go_wp2
      obtain ⟨WW, hWW, ⟨e0, e1, e2, e3, e4⟩, hbw⟩ := two_tok w (.int .i64 0) (.int .i64 (s.size : Int)) (.int .i64 (s.size : Int)) (.string ⟨#[]⟩) (.int .i64 0) (.cells #[.int .i64 0, .int .i64 (s.size : Int), .int .i64 (s.size : Int), .string ⟨#[]⟩, .int .i64 0] 52)
      rw [← hWW]
      clear hWW
      exact bodyPost_ret (v := nextV (⟨0, s.size, s.size, [], 0⟩, s.size, 0)) (by simp [results, Try.results34, go_sem, nextV, tokV, bs, e0, e1, e2, e3, e4]) rfl ⟨rfl, hbw⟩

end Go.Proofs.Ythbpkmmnoeikoaa
