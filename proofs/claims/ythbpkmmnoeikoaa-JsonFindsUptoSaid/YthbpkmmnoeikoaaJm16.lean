/-
  Several texts in one, each with its own head below. Conditions: as each says.
-/
import Derived.Test.YthbpkmmnoeikoaaJsonOKJm
import Derived.Test.YthbpkmmnoeikoaaJm10
/-
  An object's next member (the reader's second closure). Condition: as XJsonRow's; the thing by its contract.
-/
namespace Go.Proofs.Ythbpkmmnoeikoaa
open Go Go.RowKit
set_option linter.unusedVariables false

theorem joneO_any (s : ByteArray) (rb : Nat) (d : Int) (th : Tk.Tok → Js.Re (Js.J × Tk.Tok)) (w0 : World) (h0 : rb < w0.heap.size) (hs : s.size ≤ 4294967280) (hTH : ThOk s d th) (m : Nat) (q : Js.St) (t : Tk.Tok) (W : World) (hm : m ≤ 100000) (ht : t.end' ≤ s.size) (hts : t.s.length ≤ maxLen)
    (hI : LO w0 rb m q W) (hr : RdC W rb s t d) (hF : Js.Fu (Js.oneO s.data.toList th q t)) :
    Calls Try.prog 84 #[.pointer (some ⟨w0.heap.size, 0, none⟩), .pointer (some ⟨w0.heap.size + 4, 0, none⟩), .pointer (some ⟨w0.heap.size + 2, 0, none⟩)] W (OnPost rb s d (LO w0 rb (m + 1)) (fun W' => w0.grownBy W' (some rb)) (Js.oneO s.data.toList th q t)) := by
  cases hk : Js.key s.data.toList q.1 t with
  | error o => exact joneO_key s rb d th w0 h0 hs m q t W hm ht hts hI hr o hk
  | ok k =>
    cases hth : th k.2 with
    | error o => exact joneO_err s rb d th w0 h0 hs hTH m q t W hm ht hts hI hr hF k hk o hth
    | ok y => exact joneO_ok s rb d th w0 h0 hs hTH m q t W hm ht hts hI hr hF k hk y hth

end Go.Proofs.Ythbpkmmnoeikoaa

/-
  The reader's row, over whatever reads one thing of it from a token that has been read. Condition: as XJsonRow's.
-/
namespace Go.Proofs.Ythbpkmmnoeikoaa
open Go Go.RowKit
set_option linter.unusedVariables false
set_option linter.unusedSimpArgs false

theorem txt_small : ∀ (n : Nat) (l a : List UInt8), (Tk.txt n l a).1.length ≤ a.length + l.length
  | 0, _, _ => by simp [Tk.txt]
  | n + 1, [], _ => by simp [Tk.txt]
  | n + 1, c :: r, a => by
    rw [Tk.txt]
    split
    · simp
    · split
      · cases he : Tk.esc (c :: r) with
        | none => simp
        | some p =>
          obtain ⟨e1, e2, e3⟩ := esc_len he
          have h2 := txt_small n ((c :: r).drop p.2) (a ++ p.1)
          rw [List.length_drop, List.length_append] at h2
          simp only [Tk.sh]; omega
      · cases hg : Uf.get (c :: r) with
        | none => simp
        | some p =>
          have h1 := get_len hg
          have h2 := txt_small n ((c :: r).drop p.2) (a ++ (c :: r).take p.2)
          rw [List.length_drop, List.length_append, List.length_take] at h2
          dsimp only
          split
          · simp
          · simp only [Tk.sh]; omega
theorem tok_small (k : Nat) (m : List UInt8) : (Tk.tok k m).1.s.length ≤ m.length := by
  cases m with
  | nil => simp [Tk.tok]
  | cons c r =>
    rw [Tk.tok]
    cases hm : Tk.mark c with
    | some j => simp
    | none =>
      dsimp only
      split
      · split
        · have := txt_small (r.length + 1) r []
          simp at this ⊢; omega
        · simp [Tk.zero]
      · split
        · split <;> simp [Tk.zero]
        · split
          · exact (List.takeWhile_prefix _).length_le
          · simp [Tk.zero]
theorem nx_small {l : List UInt8} {t0 t : Tk.Tok} (h : Js.nx l t0 = .ok t) : t.s.length ≤ l.length := by
  obtain ⟨_, rfl⟩ := Js.nx_ok h
  unfold Tk.next
  have := tok_small (t0.end' + Tk.span Tk.blank (l.drop t0.end')) (l.drop (t0.end' + Tk.span Tk.blank (l.drop t0.end')))
  rw [List.length_drop] at this
  omega

set_option maxRecDepth 100000 in
set_option maxHeartbeats 4000000 in
theorem jrow2_any {σ : Type} (s : ByteArray) (rb : Nat) (d : Int) (one : σ → Tk.Tok → Js.Re (σ × Tk.Tok)) (I : Nat → σ → World → Prop) (X : World → Prop) (f : Nat) (caps : Array Value) (close : Nat) (hs : s.size ≤ 4294967280)
    (eg : ∀ (args : Array Value) (w : World), (callFunc f args).run Try.prog w = .ok (.enter f args) w)
    (HI : ∀ m q W W', I m q W → W.grownBy W' (some rb) → I m q W') (HX : ∀ m q W, I m q W → X W) (ho : Js.Eats s.data.toList one)
    (HO : 0 < d → ∀ m q t W, m < s.data.toList.length + 2 → t.end' ≤ s.size → I m q W → RdC W rb s t (d - 1) → Js.Fu (one q t) → (∃ t0 : Tk.Tok, Js.nx s.data.toList t0 = .ok t ∧ t0.end' ≤ s.size) → Calls Try.prog f caps W (OnPost rb s (d - 1) (I (m + 1)) X (one q t)))
    (q : σ) (t : Tk.Tok) (w : World) (hd : d ≤ 1000000) (hd2 : -9223372036854775808 ≤ d) (ht : t.end' ≤ s.size) (hI : I 0 q w) (hr : RdC w rb s t d) (hF : Js.Fu (Js.row s.data.toList one close d q t)) :
    Calls Try.prog 82 #[.pointer (some ⟨rb, 0, none⟩), .int .i64 (close : Int), .func (.func f) #[] caps] w (OnPost rb s d (fun q W => ∃ m, I m q W) X (Js.row s.data.toList one close d q t)) := by
  obtain ⟨c0, c1, c2, c3, c4, c5, c6⟩ := rd_cells hr
  obtain ⟨f1, f2, f3, f4, f5, f6⟩ := rd_frozen hr
  obtain ⟨r, hr0⟩ : ∃ r, r = Js.row s.data.toList one close d q t := ⟨_, rfl⟩
  rw [← hr0] at hF ⊢
  unfold Js.row at hr0
  by_cases h0 : d ≤ 0
  · rw [if_pos h0] at hr0
    have t1 : decide (d > 0) = false := decide_eq_false (by omega)
    have hm := jmust_any s rb t d false 3 w hr
    have HR := Lib.hid hr0
    clear hr0 hF HO
    go_enter Try.func82, Try.ntmps82
    go_wp2_with fail
    refine hm.mono ?_
    rintro e w1 ⟨rfl, rfl⟩
    exact ⟨rfl, .inr ⟨_, HR.out, rfl, HX _ _ _ hI⟩⟩
  · rw [if_neg h0] at hr0
    have t1 : decide (d > 0) = true := decide_eq_true (by omega)
    have HO' := HO (by omega)
    clear HO
    have hm := jmust_any s rb t d true 3 w hr
    have hr1 : RdC (w.setCell ⟨rb, 6, none⟩ (.int .i64 (d - 1))) rb s t (d - 1) := row_set hr 6 _
    have hg1 : w.grownBy (w.setCell ⟨rb, 6, none⟩ (.int .i64 (d - 1))) (some rb) := gb_set (gb_of (Below.refl _ _)) 6 _
    have hn := jnext_post s rb t (d - 1) _ hs ht hr1
    have HR := Lib.hid hr0
    have hI1 := HI _ _ _ _ hI hg1
    have hd1 : 0 < d := by omega
    clear hr0 h0
    go_enter Try.func82, Try.ntmps82
    go_wp2_with fail
    refine hm.mono ?_
    rintro e w1 ⟨rfl, rfl⟩
    go_wp2_with fail
    refine hn.mono ?_
    rintro e w2 ⟨hg2, ⟨t2, hx, rfl, hr2⟩ | ⟨p, hx, rfl⟩⟩
    case inr =>
      have hq := HR.out
      rw [hx] at hq
      exact ⟨rfl, .inr ⟨_, hq, rfl, HX _ _ _ (HI _ _ _ _ hI1 hg2)⟩⟩
    have hI2 := HI _ _ _ _ hI1 hg2
    have ht2 := (Js.nx_wf hx (by rw [len_data]; exact ht)).1
    rw [len_data] at ht2
    have hq := HR.out
    rw [hx] at hq
    dsimp only at hq
    have HQ := Lib.hid hq
    have HXX := Lib.hid hx
    clear HR hq hx hI1 hI hg1 hg2 hr1 hr hm hn c0 c1 c2 c3 c4 c5 c6 f1 f2 f3 f4 f5 f6
    obtain ⟨c0, c1, c2, c3, c4, c5, c6⟩ := rd_cells hr2
    by_cases hc : t2.kind = close
    · have tc : ((t2.kind : Int) != (close : Int)) = false := by simp [hc]
      have hq := HQ.out
      rw [if_pos hc] at hq
      dsimp only at hq
      clear hc
      by_cases hk : t2.kind = close
      · rw [if_pos hk] at hq
        have tk : ((t2.kind : Int) == (close : Int)) = true := by simp [hk]
        have hm := jmust_any s rb t2 (d - 1) true 2 w2 hr2
        have hrf : RdC (w2.setCell ⟨rb, 6, none⟩ (.int .i64 d)) rb s t2 d := row_set hr2 6 _
        have hgf : w2.grownBy (w2.setCell ⟨rb, 6, none⟩ (.int .i64 d)) (some rb) := gb_set (gb_of (Below.refl _ _)) 6 _
        have hIf := HI _ _ _ _ hI2 hgf
        have HQF := Lib.hid hq
        obtain ⟨c0, c1, c2, c3, c4, c5, c6⟩ := rd_cells hr2
        obtain ⟨f1, f2, f3, f4, f5, f6⟩ := rd_frozen hr2
        have hdd : d - 1 + 1 = d := by omega
        clear hk hq HQ
        go_wp2_with fail
        refine hm.mono ?_
        rintro e w9 ⟨rfl, rfl⟩
        go_wp2_with fail
        go_end0
        exact .inl ⟨_, _, HQF.out, rfl, hrf, _, hIf⟩
      · rw [if_neg hk] at hq
        have tk : ((t2.kind : Int) == (close : Int)) = false := by simp; omega
        have hm := jmust_any s rb t2 (d - 1) false 2 w2 hr2
        have HQF := Lib.hid hq
        obtain ⟨c0, c1, c2, c3, c4, c5, c6⟩ := rd_cells hr2
        clear hk hq HQ
        go_wp2_with fail
        refine hm.mono ?_
        rintro e w9 ⟨rfl, rfl⟩
        exact ⟨rfl, .inr ⟨_, HQF.out, rfl, HX _ _ _ hI2⟩⟩
    · have tc : ((t2.kind : Int) != (close : Int)) = true := by simp; omega
      have hq := HQ.out
      rw [if_neg hc] at hq
      clear hc
      obtain ⟨G, hG⟩ : ∃ G, G = Js.rowG s.data.toList one (s.data.toList.length + 2) q t2 := ⟨_, rfl⟩
      rw [← hG] at hq
      have hFG : Js.Fu G := fun e => by rw [e] at hq; exact hF hq
      rw [rowG_succ] at hG
      have hF1 : Js.Fu (one q t2) := fun e => by rw [e] at hG; exact hFG hG
      have hcl := HO' 0 q t2 w2 (by omega) ht2 hI2 hr2 hF1 ⟨t, HXX.out, ht⟩
      have hwf := ho q t2
      cases ho1 : one q t2 with
      | error o =>
        rw [ho1] at hG hcl
        have HQ2 := Lib.hid hq
        have HG2 := Lib.hid hG
        clear hq hG HQ hwf HO' ho ho1 hF1
        go_wp2_with fail
        refine hcl.mono ?_
        rintro e w3 (⟨q3, t3, hx, _, _, _⟩ | ⟨p, hx, rfl, hX⟩)
        · cases hx
        · cases hx
          have h9 := HQ2.out
          rw [HG2.out] at h9
          exact ⟨rfl, .inr ⟨_, h9, rfl, hX⟩⟩
      | ok y =>
        rw [ho1] at hG hcl
        obtain ⟨w2a, _⟩ := hwf y ho1 (by rw [len_data]; exact ht2)
        rw [len_data] at w2a
        obtain ⟨q3, t3⟩ := y
        dsimp only at hG w2a
        have HQ2 := Lib.hid hq
        have HG2 := Lib.hid hG
        clear hq hG HQ hwf ho1 hF1
        go_wp2_with fail
        refine hcl.mono ?_
        rintro e w3 (⟨q3', t3', hx, rfl, hr3, hI3⟩ | ⟨p, hx, _, _⟩)
        case inr => cases hx
        cases hx
        clear hcl
        go_wp2_with fail
        go_loopg [] (s.data.toList.length + 1) (fun k wr => RowR rb s (d - 1) I one G k wr)
        case atStart => exact ⟨q3, t3, 1, hr3, hI3, by omega, w2a, HG2⟩
        case round =>
          clear hr3 hI3 HG2 w2a c0 c1 c2 c3 c4 c5 c6 hr2 hI2 tc t1
          obtain ⟨q4, t4, m4, hr4, hI4, hm4, ht4, HG4⟩ := hrel
          have hgo := jgoes_any s rb t4 (d - 1) 6 wr hs ht4 hr4
          by_cases h6 : t4.kind = 6
          · have hg4 := HG4.out
            unfold rowT at hg4
            rw [if_pos h6] at hg4
            cases hx4 : Js.nx s.data.toList t4 with
            | error o =>
              rw [hx4] at hg4 hgo
              have HG5 := Lib.hid hg4
              have H6 := Lib.hid h6
              clear hg4 HG4 hx4 h6 HO' ho
              go_wp2_with fail
              refine hgo.mono ?_
              rintro e w5 (⟨_, hg5, ⟨t', hx, _⟩ | ⟨p, hx, rfl⟩⟩ | ⟨hne, _⟩)
              · cases hx
              · cases hx
                have h9 := HQ2.out
                rw [HG5.out] at h9
                exact ⟨rfl, .inr ⟨_, h9, rfl, HX _ _ _ (HI _ _ _ _ hI4 hg5)⟩⟩
              · exact absurd H6.out hne
            | ok t5 =>
              rw [hx4] at hg4 hgo
              dsimp only at hg4
              have ht5 := (Js.nx_wf hx4 (by rw [len_data]; exact ht4)).1
              rw [len_data] at ht5
              obtain ⟨k', hk'⟩ : ∃ k', gk = k' + 1 := by
                cases gk with
                | zero => exact absurd hg4 hFG
                | succ k => exact ⟨k, rfl⟩
              rw [hk', rowG_succ] at hg4
              have hF5 : Js.Fu (one q4 t5) := fun e => by rw [e] at hg4; exact hFG hg4
              have HK := Lib.hid hk'
              have HX4 := Lib.hid hx4
              have HG5 := Lib.hid hg4
              have H6 := Lib.hid h6
              clear hg4 HG4 hx4 h6 hk'
              go_wp2_with fail
              refine hgo.mono ?_
              rintro e w5 (⟨_, hg5, ⟨t', hx, rfl, hr5⟩ | ⟨p, hx, _⟩⟩ | ⟨hne, _⟩)
              case inl.inr => cases hx
              case inr => exact absurd H6.out hne
              cases hx
              have hI5 := HI _ _ _ _ hI4 hg5
              have hcl := HO' m4 q4 t5 w5 (by have := HK.out; omega) ht5 hI5 hr5 hF5 ⟨t4, HX4.out, ht4⟩
              have hwf := ho q4 t5
              cases ho5 : one q4 t5 with
              | error o =>
                rw [ho5] at hcl
                have hg6 := HG5.out
                rw [ho5] at hg6
                have HG6 := Lib.hid hg6
                clear hg6 HG5 hwf ho5 HO' ho hgo
                go_wp2_with fail
                refine hcl.mono ?_
                rintro e w6 (⟨q6, t6, hx, _, _, _⟩ | ⟨p, hx, rfl, hX⟩)
                · cases hx
                · cases hx
                  have h9 := HQ2.out
                  rw [HG6.out] at h9
                  exact ⟨rfl, .inr ⟨_, h9, rfl, hX⟩⟩
              | ok y =>
                rw [ho5] at hcl
                have hg6 := HG5.out
                rw [ho5] at hg6
                obtain ⟨w6a, _⟩ := hwf y ho5 (by rw [len_data]; exact ht5)
                rw [len_data] at w6a
                obtain ⟨q6, t6⟩ := y
                dsimp only at hg6 w6a
                have HG6 := Lib.hid hg6
                clear hg6 HG5 hwf ho5 HO' ho hgo
                go_wp2_with fail
                refine hcl.mono ?_
                rintro e w6 (⟨q6', t6', hx, rfl, hr6, hI6⟩ | ⟨p, hx, _, _⟩)
                case inr => cases hx
                cases hx
                clear hcl
                go_wp2_with fail
                go_roundg k'
                case measure => rw [HK.out]; exact Nat.lt_succ_self _
                case rel => exact ⟨q6, t6, m4 + 1, hr6, hI6, by have := HK.out; omega, w6a, HG6⟩
          · have hg4 := HG4.out
            unfold rowT at hg4
            rw [if_neg h6] at hg4
            have H6 := Lib.hid h6
            have hq := HQ2.out
            rw [hg4] at hq
            dsimp only at hq
            have HQ0 := Lib.hid hq
            clear h6 hg4 HG4 HO' ho hq
            go_wp2_with fail
            refine hgo.mono ?_
            rintro e w5 (⟨he, _⟩ | ⟨_, rfl, rfl⟩)
            · exact absurd he H6.out
            have hq := HQ0.out
            have HQ := Lib.hid True.intro
            by_cases hk : t4.kind = close
            · rw [if_pos hk] at hq
              have tk : ((t4.kind : Int) == (close : Int)) = true := by simp [hk]
              have hm := jmust_any s rb t4 (d - 1) true 2 wr hr4
              have hrf : RdC (wr.setCell ⟨rb, 6, none⟩ (.int .i64 d)) rb s t4 d := row_set hr4 6 _
              have hgf : wr.grownBy (wr.setCell ⟨rb, 6, none⟩ (.int .i64 d)) (some rb) := gb_set (gb_of (Below.refl _ _)) 6 _
              have hIf := HI _ _ _ _ hI4 hgf
              have HQF := Lib.hid hq
              obtain ⟨c0, c1, c2, c3, c4, c5, c6⟩ := rd_cells hr4
              obtain ⟨f1, f2, f3, f4, f5, f6⟩ := rd_frozen hr4
              have hdd : d - 1 + 1 = d := by omega
              clear hk hq HQ
              go_wp2_with fail
              refine hm.mono ?_
              rintro e w9 ⟨rfl, rfl⟩
              go_wp2_with fail
              go_end0
              exact .inl ⟨_, _, HQF.out, rfl, hrf, _, hIf⟩
            · rw [if_neg hk] at hq
              have tk : ((t4.kind : Int) == (close : Int)) = false := by simp; omega
              have hm := jmust_any s rb t4 (d - 1) false 2 wr hr4
              have HQF := Lib.hid hq
              obtain ⟨c0, c1, c2, c3, c4, c5, c6⟩ := rd_cells hr4
              clear hk hq HQ
              go_wp2_with fail
              refine hm.mono ?_
              rintro e w9 ⟨rfl, rfl⟩
              exact ⟨rfl, .inr ⟨_, HQF.out, rfl, HX _ _ _ hI4⟩⟩

end Go.Proofs.Ythbpkmmnoeikoaa
