/-
  Several texts in one, each with its own head below. Conditions: as each says.
-/
import Derived.Test.YthbpkmmnoeikoaaJsonReadJm
import Derived.Deep.LoopGhost
import Derived.Test.YthbpkmmnoeikoaaJm08
import Derived.Test.YthbpkmmnoeikoaaJm01
import Derived.Maps.Own
import Derived.Maps.Views
import Derived.StringKeys
import Derived.Test.YthbpkmmnoeikoaaJm02
/-
  The reader's goes, need. Condition: the reader lies as RdC says; a text shorter than 2^32 - 15 bytes.
-/
namespace Go.Proofs.Ythbpkmmnoeikoaa
open Go Go.RowKit
set_option linter.unusedVariables false
set_option linter.unusedSimpArgs false

/-- what a step of the reader comes to -/
def NxPost (rb : Nat) (s : ByteArray) (d : Int) (v : Value) (w : World) (r : Js.Re Tk.Tok) (e : Ending) (w' : World) : Prop :=
  w.grownBy w' (some rb) ∧ ((∃ t', r = .ok t' ∧ e = .returned v ∧ RdC w' rb s t' d) ∨ (∃ p, r = .error (some p) ∧ e = wrongE p))
theorem jnext_post (s : ByteArray) (rb : Nat) (t : Tk.Tok) (d : Int) (w : World) (hs : s.size ≤ 4294967280) (ht : t.end' ≤ s.size) (hr : RdC w rb s t d) :
    Calls Try.prog 47 #[.pointer (some ⟨rb, 0, none⟩)] w (NxPost rb s d (.tuple #[]) w (Js.nx s.data.toList t)) := by
  refine (jnext_any s rb t d w hs ht hr).mono ?_
  rintro e w' ⟨hg, h⟩
  refine ⟨hg, ?_⟩
  cases hn : Js.nx s.data.toList t with
  | ok t' => rw [hn] at h; exact .inl ⟨t', rfl, h.1, h.2⟩
  | error o =>
    rw [hn] at h
    cases o with
    | none => exact h.elim
    | some p => exact .inr ⟨p, rfl, h⟩

set_option maxRecDepth 100000 in
set_option maxHeartbeats 4000000 in
theorem jgoes_any (s : ByteArray) (rb : Nat) (t : Tk.Tok) (d : Int) (k : Nat) (w : World) (hs : s.size ≤ 4294967280) (ht : t.end' ≤ s.size) (hr : RdC w rb s t d) :
    Calls Try.prog 100 #[.pointer (some ⟨rb, 0, none⟩), .int .i64 (k : Int)] w fun e w' =>
      (t.kind = k ∧ NxPost rb s d (.bool true) w (Js.nx s.data.toList t) e w') ∨ (t.kind ≠ k ∧ e = .returned (.bool false) ∧ w = w') := by
  obtain ⟨c0, c1, c2, c3, c4, c5, c6⟩ := rd_cells hr
  have hn := jnext_post s rb t d w hs ht hr
  generalize Js.nx s.data.toList t = r at *
  by_cases h : t.kind = k
  · have t1 : ((t.kind : Int) != (k : Int)) = false := by simp [h]
    have HK := Lib.hid h
    clear h
    go_enter Try.func100, Try.ntmps100
    go_wp2_with fail
    refine hn.mono ?_
    rintro e w1 ⟨hg, ⟨t', rfl, rfl, hr'⟩ | ⟨p, rfl, rfl⟩⟩
    · go_wp2_with fail
      go_ret
      exact .inl ⟨HK.out, hg, .inl ⟨t', rfl, rfl, hr'⟩⟩
    · exact ⟨rfl, .inl ⟨HK.out, hg, .inr ⟨p, rfl, rfl⟩⟩⟩
  · have t1 : ((t.kind : Int) != (k : Int)) = true := by simp; omega
    have HK := Lib.hid h
    clear h
    go_enter Try.func100, Try.ntmps100
    go_wp2_with fail
    go_ret
    exact .inr ⟨HK.out, rfl, rfl⟩

set_option maxRecDepth 100000 in
set_option maxHeartbeats 4000000 in
theorem jneed_any (s : ByteArray) (rb : Nat) (t : Tk.Tok) (d : Int) (k : Nat) (w : World) (hs : s.size ≤ 4294967280) (ht : t.end' ≤ s.size) (hr : RdC w rb s t d) :
    Calls Try.prog 85 #[.pointer (some ⟨rb, 0, none⟩), .int .i64 (k : Int)] w fun e w' =>
      (t.kind = k ∧ NxPost rb s d (.tuple #[]) w (Js.nx s.data.toList t) e w') ∨ (t.kind ≠ k ∧ e = wrongE (t.at', 2) ∧ w = w') := by
  obtain ⟨c0, c1, c2, c3, c4, c5, c6⟩ := rd_cells hr
  have hn := jnext_post s rb t d w hs ht hr
  generalize Js.nx s.data.toList t = r at *
  by_cases h : t.kind = k
  · have t1 : ((t.kind : Int) == (k : Int)) = true := by simp [h]
    have hm := jmust_any s rb t d true 2 w hr
    have HK := Lib.hid h
    clear h
    go_enter Try.func85, Try.ntmps85
    go_wp2_with fail
    refine hm.mono ?_
    rintro e w1 ⟨rfl, rfl⟩
    go_wp2_with fail
    refine hn.mono ?_
    rintro e w1 ⟨hg, ⟨t', rfl, rfl, hr'⟩ | ⟨p, rfl, rfl⟩⟩
    · go_wp2_with fail
      go_end0
      exact .inl ⟨HK.out, hg, .inl ⟨t', rfl, rfl, hr'⟩⟩
    · exact ⟨rfl, .inl ⟨HK.out, hg, .inr ⟨p, rfl, rfl⟩⟩⟩
  · have t1 : ((t.kind : Int) == (k : Int)) = false := by simp; omega
    have hm := jmust_any s rb t d false 2 w hr
    have HK := Lib.hid h
    clear h
    go_enter Try.func85, Try.ntmps85
    go_wp2_with fail
    refine hm.mono ?_
    rintro e w1 ⟨rfl, rfl⟩
    exact ⟨rfl, .inr ⟨HK.out, rfl, rfl⟩⟩

end Go.Proofs.Ythbpkmmnoeikoaa

/-
  The reader's row, over whatever reads one thing of it. Condition: the reader lies as RdC says; a text shorter than 2^32 - 15 bytes.
-/
namespace Go.Proofs.Ythbpkmmnoeikoaa
open Go Go.RowKit
set_option linter.unusedVariables false
set_option linter.unusedSimpArgs false

/-- behind one -/
def rowT {σ : Type} (l : List UInt8) (one : σ → Tk.Tok → Js.Re (σ × Tk.Tok)) (n : Nat) (q : σ) (t : Tk.Tok) : Js.Re (σ × Tk.Tok) :=
  if t.kind = 6 then (match Js.nx l t with | .error e => .error e | .ok t3 => Js.rowG l one n q t3) else .ok (q, t)
theorem rowG_succ {σ : Type} (l : List UInt8) (one : σ → Tk.Tok → Js.Re (σ × Tk.Tok)) (n : Nat) (q : σ) (t : Tk.Tok) :
    Js.rowG l one (n + 1) q t = match one q t with | .error e => .error e | .ok p => rowT l one n p.1 p.2 := rfl

/-- what a reader of something comes to: d: how deep it may go behind it; X: what holds where it gives up -/
def OnPost {σ : Type} (rb : Nat) (s : ByteArray) (d : Int) (I : σ → World → Prop) (X : World → Prop) (r : Js.Re (σ × Tk.Tok)) (e : Ending) (w' : World) : Prop :=
  (∃ q' t', r = .ok (q', t') ∧ e = .returned (.tuple #[]) ∧ RdC w' rb s t' d ∧ I q' w') ∨ (∃ p, r = .error (some p) ∧ e = wrongE p ∧ X w')

def RowR {σ : Type} (rb : Nat) (s : ByteArray) (d : Int) (I : Nat → σ → World → Prop) (one : σ → Tk.Tok → Js.Re (σ × Tk.Tok)) (G : Js.Re (σ × Tk.Tok)) (k : Nat) (w : World) : Prop :=
  ∃ q t m, RdC w rb s t d ∧ I m q w ∧ m + k ≤ s.data.toList.length + 2 ∧ t.end' ≤ s.size ∧ Hid (G = rowT s.data.toList one k q t)

set_option maxRecDepth 100000 in
set_option maxHeartbeats 4000000 in
theorem jrow_any {σ : Type} (s : ByteArray) (rb : Nat) (d : Int) (one : σ → Tk.Tok → Js.Re (σ × Tk.Tok)) (I : Nat → σ → World → Prop) (X : World → Prop) (f : Nat) (caps : Array Value) (close : Nat) (hs : s.size ≤ 4294967280)
    (eg : ∀ (args : Array Value) (w : World), (callFunc f args).run Try.prog w = .ok (.enter f args) w)
    (HI : ∀ m q W W', I m q W → W.grownBy W' (some rb) → I m q W') (HX : ∀ m q W, I m q W → X W) (ho : Js.Eats s.data.toList one)
    (HO : 0 < d → ∀ m q t W, m < s.data.toList.length + 2 → t.end' ≤ s.size → I m q W → RdC W rb s t (d - 1) → Js.Fu (one q t) → Calls Try.prog f caps W (OnPost rb s (d - 1) (I (m + 1)) X (one q t)))
    (q : σ) (t : Tk.Tok) (w : World) (hd : d ≤ 1000000) (hd2 : -9223372036854775808 ≤ d) (ht : t.end' ≤ s.size) (hI : I 0 q w) (hr : RdC w rb s t d) (hF : Js.Fu (Js.row s.data.toList one close d q t)) :
    Calls Try.prog 82 #[.pointer (some ⟨rb, 0, none⟩), .int .i64 (close : Int), .func (.func f) #[] caps] w (OnPost rb s d (fun q W => ∃ m, I m q W) X (Js.row s.data.toList one close d q t)) := by
  obtain ⟨c0, c1, c2, c3, c4, c5, c6⟩ := rd_cells hr
  obtain ⟨f1, f2, f3, f4, f5, f6⟩ := rd_frozen hr
  obtain ⟨r, hr0⟩ : ∃ r, r = Js.row s.data.toList one close d q t := ⟨_, rfl⟩
  rw [← hr0] at hF ⊢
  unfold Js.row at hr0
  by_cases h0 : d ≤ 0
  · rw [if_pos h0] at hr0
    have t1 : decide (d > 0) = false := decide_eq_false (by omega)
    have hm := jmust_any s rb t d false 3 w hr
    have HR := Lib.hid hr0
    clear hr0 hF HO
    go_enter Try.func82, Try.ntmps82
    go_wp2_with fail
    refine hm.mono ?_
    rintro e w1 ⟨rfl, rfl⟩
    exact ⟨rfl, .inr ⟨_, HR.out, rfl, HX _ _ _ hI⟩⟩
  · rw [if_neg h0] at hr0
    have t1 : decide (d > 0) = true := decide_eq_true (by omega)
    have HO' := HO (by omega)
    clear HO
    have hm := jmust_any s rb t d true 3 w hr
    have hr1 : RdC (w.setCell ⟨rb, 6, none⟩ (.int .i64 (d - 1))) rb s t (d - 1) := row_set hr 6 _
    have hg1 : w.grownBy (w.setCell ⟨rb, 6, none⟩ (.int .i64 (d - 1))) (some rb) := gb_set (gb_of (Below.refl _ _)) 6 _
    have hn := jnext_post s rb t (d - 1) _ hs ht hr1
    have HR := Lib.hid hr0
    have hI1 := HI _ _ _ _ hI hg1
    have hd1 : 0 < d := by omega
    clear hr0 h0
    go_enter Try.func82, Try.ntmps82
    go_wp2_with fail
    refine hm.mono ?_
    rintro e w1 ⟨rfl, rfl⟩
    go_wp2_with fail
    refine hn.mono ?_
    rintro e w2 ⟨hg2, ⟨t2, hx, rfl, hr2⟩ | ⟨p, hx, rfl⟩⟩
    case inr =>
      have hq := HR.out
      rw [hx] at hq
      exact ⟨rfl, .inr ⟨_, hq, rfl, HX _ _ _ (HI _ _ _ _ hI1 hg2)⟩⟩
    have hI2 := HI _ _ _ _ hI1 hg2
    have ht2 := (Js.nx_wf hx (by rw [len_data]; exact ht)).1
    rw [len_data] at ht2
    have hq := HR.out
    rw [hx] at hq
    dsimp only at hq
    have HQ := Lib.hid hq
    clear HR hq hx hI1 hI hg1 hg2 hr1 hr hm hn c0 c1 c2 c3 c4 c5 c6 f1 f2 f3 f4 f5 f6
    obtain ⟨c0, c1, c2, c3, c4, c5, c6⟩ := rd_cells hr2
    by_cases hc : t2.kind = close
    · have tc : ((t2.kind : Int) != (close : Int)) = false := by simp [hc]
      have hq := HQ.out
      rw [if_pos hc] at hq
      dsimp only at hq
      clear hc
      by_cases hk : t2.kind = close
      · rw [if_pos hk] at hq
        have tk : ((t2.kind : Int) == (close : Int)) = true := by simp [hk]
        have hm := jmust_any s rb t2 (d - 1) true 2 w2 hr2
        have hrf : RdC (w2.setCell ⟨rb, 6, none⟩ (.int .i64 d)) rb s t2 d := row_set hr2 6 _
        have hgf : w2.grownBy (w2.setCell ⟨rb, 6, none⟩ (.int .i64 d)) (some rb) := gb_set (gb_of (Below.refl _ _)) 6 _
        have hIf := HI _ _ _ _ hI2 hgf
        have HQF := Lib.hid hq
        obtain ⟨c0, c1, c2, c3, c4, c5, c6⟩ := rd_cells hr2
        obtain ⟨f1, f2, f3, f4, f5, f6⟩ := rd_frozen hr2
        have hdd : d - 1 + 1 = d := by omega
        clear hk hq HQ
        go_wp2_with fail
        refine hm.mono ?_
        rintro e w9 ⟨rfl, rfl⟩
        go_wp2_with fail
        go_end0
        exact .inl ⟨_, _, HQF.out, rfl, hrf, _, hIf⟩
      · rw [if_neg hk] at hq
        have tk : ((t2.kind : Int) == (close : Int)) = false := by simp; omega
        have hm := jmust_any s rb t2 (d - 1) false 2 w2 hr2
        have HQF := Lib.hid hq
        obtain ⟨c0, c1, c2, c3, c4, c5, c6⟩ := rd_cells hr2
        clear hk hq HQ
        go_wp2_with fail
        refine hm.mono ?_
        rintro e w9 ⟨rfl, rfl⟩
        exact ⟨rfl, .inr ⟨_, HQF.out, rfl, HX _ _ _ hI2⟩⟩
    · have tc : ((t2.kind : Int) != (close : Int)) = true := by simp; omega
      have hq := HQ.out
      rw [if_neg hc] at hq
      clear hc
      obtain ⟨G, hG⟩ : ∃ G, G = Js.rowG s.data.toList one (s.data.toList.length + 2) q t2 := ⟨_, rfl⟩
      rw [← hG] at hq
      have hFG : Js.Fu G := fun e => by rw [e] at hq; exact hF hq
      rw [rowG_succ] at hG
      have hF1 : Js.Fu (one q t2) := fun e => by rw [e] at hG; exact hFG hG
      have hcl := HO' 0 q t2 w2 (by omega) ht2 hI2 hr2 hF1
      have hwf := ho q t2
      cases ho1 : one q t2 with
      | error o =>
        rw [ho1] at hG hcl
        have HQ2 := Lib.hid hq
        have HG2 := Lib.hid hG
        clear hq hG HQ hwf HO' ho ho1 hF1
        go_wp2_with fail
        refine hcl.mono ?_
        rintro e w3 (⟨q3, t3, hx, _, _, _⟩ | ⟨p, hx, rfl, hX⟩)
        · cases hx
        · cases hx
          have h9 := HQ2.out
          rw [HG2.out] at h9
          exact ⟨rfl, .inr ⟨_, h9, rfl, hX⟩⟩
      | ok y =>
        rw [ho1] at hG hcl
        obtain ⟨w2a, _⟩ := hwf y ho1 (by rw [len_data]; exact ht2)
        rw [len_data] at w2a
        obtain ⟨q3, t3⟩ := y
        dsimp only at hG w2a
        have HQ2 := Lib.hid hq
        have HG2 := Lib.hid hG
        clear hq hG HQ hwf ho1 hF1
        go_wp2_with fail
        refine hcl.mono ?_
        rintro e w3 (⟨q3', t3', hx, rfl, hr3, hI3⟩ | ⟨p, hx, _, _⟩)
        case inr => cases hx
        cases hx
        clear hcl
        go_wp2_with fail
        go_loopg [] (s.data.toList.length + 1) (fun k wr => RowR rb s (d - 1) I one G k wr)
        case atStart => exact ⟨q3, t3, 1, hr3, hI3, by omega, w2a, HG2⟩
        case round =>
          clear hr3 hI3 HG2 w2a c0 c1 c2 c3 c4 c5 c6 hr2 hI2 tc t1
          obtain ⟨q4, t4, m4, hr4, hI4, hm4, ht4, HG4⟩ := hrel
          have hgo := jgoes_any s rb t4 (d - 1) 6 wr hs ht4 hr4
          by_cases h6 : t4.kind = 6
          · have hg4 := HG4.out
            unfold rowT at hg4
            rw [if_pos h6] at hg4
            cases hx4 : Js.nx s.data.toList t4 with
            | error o =>
              rw [hx4] at hg4 hgo
              have HG5 := Lib.hid hg4
              have H6 := Lib.hid h6
              clear hg4 HG4 hx4 h6 HO' ho
              go_wp2_with fail
              refine hgo.mono ?_
              rintro e w5 (⟨_, hg5, ⟨t', hx, _⟩ | ⟨p, hx, rfl⟩⟩ | ⟨hne, _⟩)
              · cases hx
              · cases hx
                have h9 := HQ2.out
                rw [HG5.out] at h9
                exact ⟨rfl, .inr ⟨_, h9, rfl, HX _ _ _ (HI _ _ _ _ hI4 hg5)⟩⟩
              · exact absurd H6.out hne
            | ok t5 =>
              rw [hx4] at hg4 hgo
              dsimp only at hg4
              have ht5 := (Js.nx_wf hx4 (by rw [len_data]; exact ht4)).1
              rw [len_data] at ht5
              obtain ⟨k', hk'⟩ : ∃ k', gk = k' + 1 := by
                cases gk with
                | zero => exact absurd hg4 hFG
                | succ k => exact ⟨k, rfl⟩
              rw [hk', rowG_succ] at hg4
              have hF5 : Js.Fu (one q4 t5) := fun e => by rw [e] at hg4; exact hFG hg4
              have HK := Lib.hid hk'
              have HG5 := Lib.hid hg4
              have H6 := Lib.hid h6
              clear hg4 HG4 hx4 h6 hk'
              go_wp2_with fail
              refine hgo.mono ?_
              rintro e w5 (⟨_, hg5, ⟨t', hx, rfl, hr5⟩ | ⟨p, hx, _⟩⟩ | ⟨hne, _⟩)
              case inl.inr => cases hx
              case inr => exact absurd H6.out hne
              cases hx
              have hI5 := HI _ _ _ _ hI4 hg5
              have hcl := HO' m4 q4 t5 w5 (by have := HK.out; omega) ht5 hI5 hr5 hF5
              have hwf := ho q4 t5
              cases ho5 : one q4 t5 with
              | error o =>
                rw [ho5] at hcl
                have hg6 := HG5.out
                rw [ho5] at hg6
                have HG6 := Lib.hid hg6
                clear hg6 HG5 hwf ho5 HO' ho hgo
                go_wp2_with fail
                refine hcl.mono ?_
                rintro e w6 (⟨q6, t6, hx, _, _, _⟩ | ⟨p, hx, rfl, hX⟩)
                · cases hx
                · cases hx
                  have h9 := HQ2.out
                  rw [HG6.out] at h9
                  exact ⟨rfl, .inr ⟨_, h9, rfl, hX⟩⟩
              | ok y =>
                rw [ho5] at hcl
                have hg6 := HG5.out
                rw [ho5] at hg6
                obtain ⟨w6a, _⟩ := hwf y ho5 (by rw [len_data]; exact ht5)
                rw [len_data] at w6a
                obtain ⟨q6, t6⟩ := y
                dsimp only at hg6 w6a
                have HG6 := Lib.hid hg6
                clear hg6 HG5 hwf ho5 HO' ho hgo
                go_wp2_with fail
                refine hcl.mono ?_
                rintro e w6 (⟨q6', t6', hx, rfl, hr6, hI6⟩ | ⟨p, hx, _, _⟩)
                case inr => cases hx
                cases hx
                clear hcl
                go_wp2_with fail
                go_roundg k'
                case measure => rw [HK.out]; exact Nat.lt_succ_self _
                case rel => exact ⟨q6, t6, m4 + 1, hr6, hI6, by have := HK.out; omega, w6a, HG6⟩
          · have hg4 := HG4.out
            unfold rowT at hg4
            rw [if_neg h6] at hg4
            have H6 := Lib.hid h6
            have hq := HQ2.out
            rw [hg4] at hq
            dsimp only at hq
            have HQ0 := Lib.hid hq
            clear h6 hg4 HG4 HO' ho hq
            go_wp2_with fail
            refine hgo.mono ?_
            rintro e w5 (⟨he, _⟩ | ⟨_, rfl, rfl⟩)
            · exact absurd he H6.out
            have hq := HQ0.out
            have HQ := Lib.hid True.intro
            by_cases hk : t4.kind = close
            · rw [if_pos hk] at hq
              have tk : ((t4.kind : Int) == (close : Int)) = true := by simp [hk]
              have hm := jmust_any s rb t4 (d - 1) true 2 wr hr4
              have hrf : RdC (wr.setCell ⟨rb, 6, none⟩ (.int .i64 d)) rb s t4 d := row_set hr4 6 _
              have hgf : wr.grownBy (wr.setCell ⟨rb, 6, none⟩ (.int .i64 d)) (some rb) := gb_set (gb_of (Below.refl _ _)) 6 _
              have hIf := HI _ _ _ _ hI4 hgf
              have HQF := Lib.hid hq
              obtain ⟨c0, c1, c2, c3, c4, c5, c6⟩ := rd_cells hr4
              obtain ⟨f1, f2, f3, f4, f5, f6⟩ := rd_frozen hr4
              have hdd : d - 1 + 1 = d := by omega
              clear hk hq HQ
              go_wp2_with fail
              refine hm.mono ?_
              rintro e w9 ⟨rfl, rfl⟩
              go_wp2_with fail
              go_end0
              exact .inl ⟨_, _, HQF.out, rfl, hrf, _, hIf⟩
            · rw [if_neg hk] at hq
              have tk : ((t4.kind : Int) == (close : Int)) = false := by simp; omega
              have hm := jmust_any s rb t4 (d - 1) false 2 wr hr4
              have HQF := Lib.hid hq
              obtain ⟨c0, c1, c2, c3, c4, c5, c6⟩ := rd_cells hr4
              clear hk hq HQ
              go_wp2_with fail
              refine hm.mono ?_
              rintro e w9 ⟨rfl, rfl⟩
              exact ⟨rfl, .inr ⟨_, HQF.out, rfl, HX _ _ _ hI4⟩⟩

end Go.Proofs.Ythbpkmmnoeikoaa

/-
  The reference's Same, of two rows of the same tokens: it says yes. Condition: at most 2^32 tokens.
-/
namespace Go.Proofs.Ythbpkmmnoeikoaa
open Go Go.RowKit
set_option linter.unusedVariables false
set_option linter.unusedSimpArgs false

theorem tcells_at : ∀ (ts : List Tk.Tok) (k j : Nat) (hk : k < ts.length), j < 5 → (tcells ts)[k * 5 + j]? = (tokCells ts[k]).toList[j]?
  | [], k, j, hk, _ => by simp at hk
  | t :: ts, 0, j, _, hj => by
    have hl : (tokCells t).toList.length = 5 := rfl
    show ((tokCells t).toList ++ tcells ts)[0 * 5 + j]? = _
    rw [List.getElem?_append_left (by omega)]
    simp
  | t :: ts, k + 1, j, hk, hj => by
    have hl : (tokCells t).toList.length = 5 := rfl
    show ((tokCells t).toList ++ tcells ts)[(k + 1) * 5 + j]? = _
    rw [List.getElem?_append_right (by omega), hl, show (k + 1) * 5 + j - 5 = k * 5 + j by omega, tcells_at ts k j (by simp at hk; omega) hj]
    rfl

theorem addr_at (g j : Nat) : (⟨g, 0, none⟩ : Addr).add j = ⟨g, j, none⟩ := by
  unfold Addr.add
  by_cases h : j = 0
  · subst h; rfl
  · simp [h]
/-- a row of tokens as it is read -/
def ToksV (w : World) (v : Value) (ts : List Tk.Tok) : Prop :=
  ∃ p c, v = .slice p ts.length c ∧ ∀ k (hk : k < ts.length), ∃ b, p = some ⟨b, 0, none⟩ ∧ w.cell? ⟨b, k * 5, none⟩ = some (.int .i64 (ts[k].kind : Int)) ∧ w.cell? ⟨b, k * 5 + 1, none⟩ = some (.int .i64 (ts[k].at' : Int)) ∧
    w.cell? ⟨b, k * 5 + 2, none⟩ = some (.int .i64 (ts[k].end' : Int)) ∧ w.cell? ⟨b, k * 5 + 3, none⟩ = some (str ts[k].s) ∧ w.cell? ⟨b, k * 5 + 4, none⟩ = some (.int .i64 ts[k].n)
theorem ToksV.of {w : World} {base : Nat} {v : Value} {ts : List Tk.Tok} (h : w.ownsRow base 52 5 v ts.length (tcells ts)) : ToksV w v ts := by
  rcases h.2 with ⟨rfl, h0⟩ | ⟨g, cap, cur, rfl, h1⟩
  · refine ⟨none, 0, by rw [h0], fun k hk => ?_⟩
    omega
  · refine ⟨_, _, rfl, fun k hk => ⟨g, rfl, ?_⟩⟩
    have key : ∀ j u, j < 5 → (tokCells ts[k]).toList[j]? = some u → w.cell? ⟨g, k * 5 + j, none⟩ = some u := fun j u hj hu => by
      have := h.cells rfl (k * 5 + j) u ((tcells_at ts k j hk hj).trans hu)
      rwa [addr_at] at this
    exact ⟨key 0 _ (by omega) rfl, key 1 _ (by omega) rfl, key 2 _ (by omega) rfl, key 3 _ (by omega) rfl, key 4 _ (by omega) rfl⟩

def SmR (n : Nat) (w0 : World) (i : Value) (w : World) : Prop := ∃ k : Nat, k ≤ n ∧ i = .int .i64 (k : Int) ∧ ∃ m, w = w0.drewN m

set_option maxRecDepth 100000 in
set_option maxHeartbeats 4000000 in
theorem same_any (v1 v2 : Value) (ts : List Tk.Tok) (w : World) (hl : ts.length ≤ 4294967296) (h1 : ToksV w v1 ts) (h2 : ToksV w v2 ts) :
    Calls Try.prog 37 #[v1, v2] w fun e w' => e = .returned (.bool true) ∧ Below w.heap.size w w' := by
  obtain ⟨p1, c1, rfl, hf1⟩ := h1
  obtain ⟨p2, c2, rfl, hf2⟩ := h2
  have t0 : ((ts.length : Int) != (ts.length : Int)) = false := by simp
  go_enter Try.func37, Try.ntmps37
  go_wp2
  go_loopw [5] (SmR ts.length w) (fun i _ => ts.length - (intOf i).toNat)
  case atStart => exact ⟨0, Nat.zero_le _, by go_num, 0, rfl⟩
  case round =>
    obtain ⟨k, hk, rfl, m, rfl⟩ := hrel
    by_cases hlt : k < ts.length
    · have tl : decide ((k : Int) < (ts.length : Int)) = true := decide_eq_true (by omega)
      obtain ⟨b1, rfl, x0, x1, x2, x3, x4⟩ := hf1 k hlt
      obtain ⟨b2, rfl, y0, y1, y2, y3, y4⟩ := hf2 k hlt
      clear hf1 hf2
      go_wp2
      go_region
      go_wp2
      go_roundw
      case rel => exact ⟨k + 1, by omega, by go_num, m + 1, rfl⟩
      case measure => simp [intOf]; omega
    · obtain rfl : k = ts.length := by omega
      have tl : decide ((ts.length : Int) < (ts.length : Int)) = false := decide_eq_false (by omega)
      clear hf1 hf2
      go_wp2
      exact bodyPost_ret (v := .bool true) (by simp [results, Try.results37, go_sem]) rfl ⟨rfl, below_drewN (Below.refl _ _) m⟩

end Go.Proofs.Ythbpkmmnoeikoaa

/-
  A thing as it lies: its value, its names, its things, in blocks of a set. No condition.
-/
namespace Go.Proofs.Ythbpkmmnoeikoaa
open Go Go.RowKit
set_option linter.unusedVariables false
set_option linter.unusedSimpArgs false

/-- a row of names, in blocks of S -/
def NamesV (S : Nat → Prop) (W : World) (v : Value) (ns : List (List UInt8)) : Prop :=
  ∃ p c, v = .slice p ns.length c ∧ ∀ i (h : i < ns.length), ∃ b o, p = some ⟨b, o, none⟩ ∧ S b ∧ W.cell? ⟨b, o + i, none⟩ = some (str ns[i])
/-- a row of things -/
def ItemsV (R : Value → Js.J → Prop) (S : Nat → Prop) (W : World) (v : Value) (xs : List Js.J) : Prop :=
  ∃ p c, v = .slice p xs.length c ∧ ∀ i (h : i < xs.length), ∃ b o c0 c1 c2 c3 c4, p = some ⟨b, o, none⟩ ∧ S b ∧
    (W.cell? ⟨b, o + i * 5, none⟩ = some c0 ∧ W.cell? ⟨b, o + i * 5 + 1, none⟩ = some c1 ∧ W.cell? ⟨b, o + i * 5 + 2, none⟩ = some c2 ∧ W.cell? ⟨b, o + i * 5 + 3, none⟩ = some c3 ∧ W.cell? ⟨b, o + i * 5 + 4, none⟩ = some c4) ∧
    R (.agg #[c0, c1, c2, c3, c4]) xs[i]
def JVn : Nat → (Nat → Prop) → World → Value → Js.J → Prop
  | 0, _, _, _, _ => False
  | k + 1, S, W, v, .mk kd n s ns xs => ∃ vn vl, v = .agg #[.int .i64 kd, .int .i64 n, str s, vn, vl] ∧ NamesV S W vn ns ∧ ItemsV (JVn k S W) S W vl xs

theorem cell_same {W W' : World} {b o : Nat} {v : Value} (h : W'.heap[b]? = W.heap[b]?) (hc : W.cell? ⟨b, o, none⟩ = some v) : W'.cell? ⟨b, o, none⟩ = some v := (World.cell?_of_block h).trans hc
theorem NamesV.keep {S S' : Nat → Prop} {W W' : World} {v : Value} {ns : List (List UInt8)} (h : NamesV S W v ns) (hS : ∀ b, S b → S' b) (hk : ∀ b, S b → W'.heap[b]? = W.heap[b]?) : NamesV S' W' v ns := by
  obtain ⟨p, c, rfl, h1⟩ := h
  refine ⟨p, c, rfl, fun i hi => ?_⟩
  obtain ⟨b, o, hp, hb, hc⟩ := h1 i hi
  exact ⟨b, o, hp, hS b hb, cell_same (hk b hb) hc⟩
theorem ItemsV.keep {R R' : Value → Js.J → Prop} {S S' : Nat → Prop} {W W' : World} {v : Value} {xs : List Js.J} (h : ItemsV R S W v xs) (hR : ∀ u x, R u x → R' u x) (hS : ∀ b, S b → S' b) (hk : ∀ b, S b → W'.heap[b]? = W.heap[b]?) : ItemsV R' S' W' v xs := by
  obtain ⟨p, c, rfl, h1⟩ := h
  refine ⟨p, c, rfl, fun i hi => ?_⟩
  obtain ⟨b, o, c0, c1, c2, c3, c4, hp, hb, ⟨g0, g1, g2, g3, g4⟩, hr⟩ := h1 i hi
  exact ⟨b, o, c0, c1, c2, c3, c4, hp, hS b hb, ⟨cell_same (hk b hb) g0, cell_same (hk b hb) g1, cell_same (hk b hb) g2, cell_same (hk b hb) g3, cell_same (hk b hb) g4⟩, hR _ _ hr⟩
theorem JVn.keep {S S' : Nat → Prop} {W W' : World} (hS : ∀ b, S b → S' b) (hk : ∀ b, S b → W'.heap[b]? = W.heap[b]?) : ∀ (k : Nat) (v : Value) (j : Js.J), JVn k S W v j → JVn k S' W' v j
  | 0, _, _, h => h.elim
  | k + 1, v, .mk kd n s ns xs, h => by
    obtain ⟨vn, vl, rfl, h1, h2⟩ := h
    exact ⟨vn, vl, rfl, h1.keep hS hk, h2.keep (JVn.keep hS hk k) hS hk⟩
theorem JVn.succ {S : Nat → Prop} {W : World} : ∀ (k : Nat) (v : Value) (j : Js.J), JVn k S W v j → JVn (k + 1) S W v j
  | 0, _, _, h => h.elim
  | k + 1, v, .mk kd n s ns xs, h => by
    obtain ⟨vn, vl, rfl, h1, h2⟩ := h
    exact ⟨vn, vl, rfl, h1, h2.keep (JVn.succ k) (fun _ h => h) (fun _ _ => rfl)⟩
theorem JVn.le {S : Nat → Prop} {W : World} {k k' : Nat} (hk : k ≤ k') {v : Value} {j : Js.J} (h : JVn k S W v j) : JVn k' S W v j := by
  induction hk with
  | refl => exact h
  | step _ ih => exact JVn.succ _ _ _ ih
theorem JVn.form {k : Nat} {S : Nat → Prop} {W : World} {v : Value} {j : Js.J} (h : JVn k S W v j) : ∃ c0 c1 c2 c3 c4, v = .agg #[c0, c1, c2, c3, c4] ∧ c0.oneCell' = true ∧ c1.oneCell' = true ∧ c2.oneCell' = true ∧ c3.oneCell' = true ∧ c4.oneCell' = true := by
  cases k with
  | zero => exact h.elim
  | succ k =>
    obtain ⟨kd, n, s, ns, xs⟩ := j
    obtain ⟨vn, vl, rfl, ⟨p, c, rfl, _⟩, ⟨p', c', rfl, _⟩⟩ := h
    exact ⟨_, _, _, _, _, rfl, rfl, rfl, rfl, rfl, rfl⟩

/-- the cells of a row of things -/
def c5 (v : Value) : List Value := v.cells.toList
theorem flat5 : ∀ (vs : List Value) (h : ∀ v ∈ vs, (c5 v).length = 5), ((vs.map c5).flatten).length = vs.length * 5
  | [], _ => rfl
  | v :: vs, h => by
    have h1 := h v (List.mem_cons_self ..)
    have h2 := flat5 vs (fun u hu => h u (List.mem_cons_of_mem _ hu))
    simp only [List.map_cons, List.flatten_cons, List.length_append, List.length_cons, h1, h2]; omega
theorem flat5_at : ∀ (vs : List Value) (h : ∀ v ∈ vs, (c5 v).length = 5) (i j : Nat) (hi : i < vs.length), j < 5 → ((vs.map c5).flatten)[i * 5 + j]? = (c5 vs[i])[j]?
  | [], _, i, j, hi, _ => by simp at hi
  | v :: vs, h, 0, j, _, hj => by
    have h1 := h v (List.mem_cons_self ..)
    simp only [List.map_cons, List.flatten_cons, Nat.zero_mul, Nat.zero_add, List.getElem_cons_zero]
    rw [List.getElem?_append_left (by omega)]
  | v :: vs, h, i + 1, j, hi, hj => by
    have h1 := h v (List.mem_cons_self ..)
    simp only [List.map_cons, List.flatten_cons, List.getElem_cons_succ]
    rw [List.getElem?_append_right (by omega), h1, show (i + 1) * 5 + j - 5 = i * 5 + j by omega]
    exact flat5_at vs (fun u hu => h u (List.mem_cons_of_mem _ hu)) i j (by simp at hi; omega) hj

/-- a row of things that is the call's own: the values of its things, which lie in blocks of S -/
structure KidsV (k : Nat) (S : Nat → Prop) (W : World) (base : Nat) (v : Value) (xs : List Js.J) (vs : List Value) : Prop where
  len : vs.length = xs.length
  own : W.ownsRow base 41 5 v xs.length ((vs.map c5).flatten)
  kid : ∀ i (h : i < xs.length) (h' : i < vs.length), JVn k S W vs[i] xs[i]
theorem JVn.len {k : Nat} {S : Nat → Prop} {W : World} {v : Value} {j : Js.J} (h : JVn k S W v j) : (c5 v).length = 5 := by
  obtain ⟨c0, c1, c2, c3, c4, rfl, _⟩ := h.form
  rfl
theorem KidsV.all5 {k : Nat} {S : Nat → Prop} {W : World} {base : Nat} {v : Value} {xs : List Js.J} {vs : List Value} (h : KidsV k S W base v xs vs) : ∀ u ∈ vs, (c5 u).length = 5 := by
  intro u hu
  obtain ⟨i, hi, rfl⟩ := List.getElem_of_mem hu
  exact (h.kid i (by rw [← h.len]; exact hi) hi).len
/-- what is the call's own reads as a row of things -/
theorem KidsV.items {k : Nat} {S S' : Nat → Prop} {W : World} {base : Nat} {v : Value} {xs : List Js.J} {vs : List Value} (h : KidsV k S W base v xs vs) (hS : ∀ b, S b → S' b) (hv : ∀ b, v.ownBlock = some b → S' b) : ItemsV (JVn k S' W) S' W v xs := by
  have h5 := h.all5
  rcases h.own.2 with ⟨rfl, h0⟩ | ⟨g, cap, cur, rfl, h1⟩
  · exact ⟨none, 0, by rw [h0], fun i hi => by omega⟩
  · refine ⟨_, _, rfl, fun i hi => ?_⟩
    have hi' : i < vs.length := by rw [h.len]; exact hi
    have hk := h.kid i hi hi'
    obtain ⟨c0, c1, c2, c3, c4, hf, _⟩ := hk.form
    have key : ∀ j u, j < 5 → (c5 vs[i])[j]? = some u → W.cell? ⟨g, i * 5 + j, none⟩ = some u := fun j u hj hu => by
      have := h.own.cells rfl (i * 5 + j) u ((flat5_at vs h5 i j hi' hj).trans hu)
      rwa [addr_at] at this
    rw [hf] at key
    refine ⟨g, 0, c0, c1, c2, c3, c4, rfl, hv g rfl, ?_, ?_⟩
    · rw [Nat.zero_add]
      exact ⟨key 0 _ (by omega) rfl, key 1 _ (by omega) rfl, key 2 _ (by omega) rfl, key 3 _ (by omega) rfl, key 4 _ (by omega) rfl⟩
    · rw [← hf]; exact JVn.keep hS (fun _ _ => rfl) _ _ _ hk
theorem KidsV.keep {k : Nat} {S S' : Nat → Prop} {W W' : World} {base : Nat} {v : Value} {xs : List Js.J} {vs : List Value} (h : KidsV k S W base v xs vs) (hS : ∀ b, S b → S' b) (hk : ∀ b, S b → W'.heap[b]? = W.heap[b]?) (hv : W'.ownsRow base 41 5 v xs.length ((vs.map c5).flatten)) : KidsV k S' W' base v xs vs :=
  ⟨h.len, hv, fun i h1 h2 => JVn.keep hS hk _ _ _ (h.kid i h1 h2)⟩
theorem KidsV.le {k k' : Nat} {S : Nat → Prop} {W : World} {base : Nat} {v : Value} {xs : List Js.J} {vs : List Value} (h : KidsV k S W base v xs vs) (hk : k ≤ k') : KidsV k' S W base v xs vs :=
  ⟨h.len, h.own, fun i h1 h2 => (h.kid i h1 h2).le hk⟩
/-- one more -/
theorem KidsV.snoc {k : Nat} {S : Nat → Prop} {W : World} {base : Nat} {v u : Value} {xs : List Js.J} {vs : List Value} {x : Js.J} (hl : vs.length = xs.length) (hkid : ∀ i (h : i < xs.length) (h' : i < vs.length), JVn k S W vs[i] xs[i])
    (hu : JVn k S W u x) (hown : W.ownsRow base 41 5 v (xs.length + 1) ((vs.map c5).flatten ++ c5 u)) : KidsV k S W base v (xs ++ [x]) (vs ++ [u]) := by
  refine ⟨by simp [hl], ?_, fun i h1 h2 => ?_⟩
  · rw [List.length_append, List.length_singleton, List.map_append, List.flatten_append]
    simpa using hown
  · by_cases hi : i < xs.length
    · have hi' : i < vs.length := by omega
      rw [List.getElem_append_left hi, List.getElem_append_left hi']
      exact hkid i hi hi'
    · have e1 : i = xs.length := by simp at h1; omega
      subst e1
      rw [List.getElem_append_right (Nat.le_refl _), List.getElem_append_right (by omega)]
      simp only [hl, Nat.sub_self, List.getElem_cons_zero]
      exact hu
theorem KidsV.nil (k : Nat) (S : Nat → Prop) (W : World) (base : Nat) : KidsV k S W base (.slice none 0 0) [] [] := ⟨rfl, World.ownsRow_nil _ _ _ _, fun i h => by simp at h⟩

/-- a row of names that is the call's own -/
theorem names_own {S : Nat → Prop} {W : World} {base : Nat} {v : Value} {ns : List (List UInt8)} (h : W.ownsRow base 9 1 v ns.length (ns.map str)) (hv : ∀ b, v.ownBlock = some b → S b) : NamesV S W v ns := by
  rcases h.2 with ⟨rfl, h0⟩ | ⟨g, cap, cur, rfl, h1⟩
  · exact ⟨none, 0, by rw [h0], fun i hi => by omega⟩
  · refine ⟨_, _, rfl, fun i hi => ⟨g, 0, rfl, hv g rfl, ?_⟩⟩
    have := h.cells rfl i (str ns[i]) (by rw [List.getElem?_map, List.getElem?_eq_getElem hi]; rfl)
    rw [addr_at] at this
    rw [Nat.zero_add]; exact this

end Go.Proofs.Ythbpkmmnoeikoaa

/-
  A set of texts kept in a map[string]bool that the call has made: asked by 'if had[s]', written by 'had[s] = true'. Condition: texts of at most maxLen bytes; fewer than maxLen of them.
-/
namespace Go.Proofs.Ythbpkmmnoeikoaa
open Go Go.RowKit Go.Maps Go.WideMaps
set_option linter.unusedVariables false
set_option linter.unusedSimpArgs false

theorem boolLaw : Keyed Try.prog 9 := string_keyed Try.underlying9
theorem plainElem_bool_inv {P : Program} {e : TypeId} (he : P.underlying e = some .bool) {v : Value} {z : DataW Unit × List MemPlace} (h : plainElem P e v = some z) : ∃ x, v = .bool x ∧ z = (.lit (.bool x), []) := by
  unfold plainElem at h
  rw [he] at h
  cases v <;> simp at h
  exact ⟨_, rfl, h.symm⟩

/-- block b is a set of the texts ns -/
def SetM (W : World) (b : Nat) (ns : List (List UInt8)) : Prop :=
  ∃ (D : DataW Unit) (n : Nat), n ≤ ns.length ∧ W.ownsMap Try.prog 9 (plainElem Try.prog 4) b n D ∧ ∀ l : List UInt8, D.atKey (.string l) (.lit (.bool false)) = .lit (.bool (decide (l ∈ ns)))

theorem SetM.made (W : World) : SetM (W.alloc (.map #[] 0)) W.heap.size [] := ⟨.map [], 0, Nat.le_refl _, World.ownsMap_made _ _ _ _, fun l => rfl⟩
theorem SetM.kept {W W' : World} {b : Nat} {ns : List (List UInt8)} {row : Option Nat} (h : SetM W b ns) (hg : W.grownBy W' row) (hne : some b ≠ row) : SetM W' b ns := by
  obtain ⟨D, n, hn, ho, ha⟩ := h
  exact ⟨D, n, hn, ho.kept hg hne, ha⟩
theorem SetM.lt {W : World} {b : Nat} {ns : List (List UInt8)} (h : SetM W b ns) : b < W.heap.size := by
  obtain ⟨D, n, hn, ho, ha⟩ := h
  exact ho.lt
theorem zeroBool (W : World) : (zeroValue 4).run Try.prog W = .ok (.bool false) W := by kernel_rfl
theorem SetM.asked {W : World} {b : Nat} {ns : List (List UInt8)} (h : SetM W b ns) (l : List UInt8) (hl : l.length ≤ maxLen) :
    (Instr.lookup 122 (.map (some b)) (str l) false).run Try.prog W = .ok (.bool (decide (l ∈ ns))) W := by
  obtain ⟨D, n, hn, ho, ha⟩ := h
  have hkey : keyOf Try.prog 9 (.string (bs l)) = some (.string l) := keyOf_string_mk Try.underlying9 (by rw [bs_size]; exact hl)
  obtain ⟨v, ps, hrun, hv⟩ := ho.lookup boolLaw Try.underlying122 (zeroBool W) (plainElem_bool Try.underlying4 false) hkey
  obtain ⟨x, rfl, hx⟩ := plainElem_bool_inv Try.underlying4 hv
  simp only [Prod.mk.injEq] at hx
  rw [ha l] at hx
  have : decide (l ∈ ns) = x := by simpa using hx.1
  rw [this]
  exact hrun
theorem SetM.told {W : World} {b : Nat} {ns : List (List UInt8)} (h : SetM W b ns) (hn2 : ns.length < maxLen) (l : List UInt8) (hl : l.length ≤ maxLen) :
    ∃ W', (Instr.mapUpdate 122 (.map (some b)) (str l) (.bool true)).run Try.prog W = .ok () W' ∧ SetM W' b (ns ++ [l]) ∧ W.grownBy W' (some b) := by
  obtain ⟨D, n, hn, ho, ha⟩ := h
  have hkey : keyOf Try.prog 9 (.string (bs l)) = some (.string l) := keyOf_string_mk Try.underlying9 (by rw [bs_size]; exact hl)
  have hD : IsMap D := by obtain ⟨es, clock, _, _, _, hD⟩ := ho; exact ⟨_, hD⟩
  obtain ⟨W', hrun, ho', hg⟩ := ho.update boolLaw Try.underlying122 (by omega) hkey (plainElem_bool Try.underlying4 true)
  refine ⟨W', hrun, ⟨_, n + 1, by simp; omega, ho', fun l' => ?_⟩, hg⟩
  by_cases he : l' = l
  · subst he
    rw [atKey_put_same hD (by trivial)]
    simp
  · rw [atKey_put_other (fun e => he (by cases e; rfl)), ha l']
    simp [he]

theorem wpList_told (w : World) {ops : Array Oper} {rest : List Oper} {o : Oper} {a : Act} {Q : Exit → Act → World → Prop}
    (hg : o.guard = none) (m x v : Operand) (hop : o.op = Op.mapUpdate 122 m x v) (b : Nat) (ns : List (List UInt8)) (hm : a.eval m = .map (some b)) (hs : SetM w b ns) (hn2 : ns.length < maxLen) (l : List UInt8) (hl : l.length ≤ maxLen)
    (hx : a.eval x = str l) (hv : a.eval v = .bool true) (hK : ∀ w', SetM w' b (ns ++ [l]) → w.grownBy w' (some b) → wpList Try.prog ops Q rest (a.put o.dst undef) w') :
    wpList Try.prog ops Q (o :: rest) a w := by
  refine wpList_plain hg fun K' hK' => ?_
  obtain ⟨w', hrun, r1, r2⟩ := hs.told hn2 l hl
  unfold Oper.wp
  simp [execOp, hop, hm, hx, hv, hrun, Result.andThen]
  exact hK' _ _ (hK w' r1 r2)

end Go.Proofs.Ythbpkmmnoeikoaa

/-
  json.names at a row of names. Condition: at most a million names, each shorter than 2^32 - 15 bytes.
-/
namespace Go.Proofs.Ythbpkmmnoeikoaa
open Go Go.RowKit
set_option linter.unusedVariables false
set_option linter.unusedSimpArgs false

/-- the first k are right -/
def nmK (ns : List (List UInt8)) (k : Nat) : Prop := ∀ m (h : m < ns.length), m < k → ¬ ns[m] ∈ ns.take m ∧ valid ns[m] = true
instance (ns : List (List UInt8)) (k : Nat) : Decidable (nmK ns k) := by unfold nmK; infer_instance
def nmOk (ns : List (List UInt8)) : Bool := decide (nmK ns ns.length)
def NmR (ns : List (List UInt8)) (b : Nat) (w0 : World) (i : Value) (w : World) : Prop := ∃ k : Nat, k ≤ ns.length ∧ i = .int .i64 (k : Int) ∧ Below w0.heap.size w0 w ∧ b < w.heap.size ∧ SetM w b (ns.take k) ∧ Hid (nmK ns k)

set_option maxRecDepth 100000 in
set_option maxHeartbeats 4000000 in
theorem jnames_any (S : Nat → Prop) (v : Value) (ns : List (List UInt8)) (W : World) (hv : NamesV S W v ns) (hS : ∀ b, S b → b < W.heap.size) (hN : ns.length ≤ 1000000) (hL : ∀ s ∈ ns, s.length ≤ 4294967280) :
    Calls Try.prog 57 #[v] W fun e W' => e = .returned (.bool (nmOk ns)) ∧ Below W.heap.size W W' := by
  obtain ⟨p, c, rfl, hn⟩ := hv
  have HN := Lib.hid hn
  have hmm := @run_makeMap Try.prog
  obtain ⟨r, hr0⟩ : ∃ r, r = nmOk ns := ⟨_, rfl⟩
  rw [← hr0]
  have HR := Lib.hid hr0
  have HL := Lib.hid hL
  clear hn hr0 hL
  have hset := SetM.made W
  go_enter Try.func57, Try.ntmps57
  go_wp2_with fail
  go_loopw [9] (NmR ns W.heap.size W) (fun i _ => ns.length - (intOf i).toNat)
  case atStart => exact ⟨0, Nat.zero_le _, by go_num, (Below.refl _ W).alloc (Nat.le_refl _) _, by simp, hset, fun m h h2 => absurd h2 (by omega)⟩
  case round =>
    obtain ⟨i, hi, rfl, hbl, hbs, hset, HK⟩ := hrel
    by_cases hlt : i < ns.length
    · have tl : decide ((i : Int) < (ns.length : Int)) = true := decide_eq_true (by omega)
      obtain ⟨b, o, rfl, hs, hc⟩ := HN.out i hlt
      have hc := cell_same (hbl.block b (hS b hs)) hc
      have hln := HL.out ns[i] (List.getElem_mem hlt)
      have hlk := hset.asked ns[i] (by unfold maxLen; omega)
      by_cases hin : ns[i] ∈ ns.take i
      · rw [decide_eq_true hin] at hlk
        have hrf : r = false := HR.out.trans (decide_eq_false (fun h => (h i hlt hlt).1 hin))
        have HRF := Lib.hid hrf
        clear hin hrf HR
        go_wp2
        exact bodyPost_ret (v := .bool false) (by simp [results, Try.results57, go_sem]) rfl ⟨by rw [HRF.out], hbl⟩
      · rw [decide_eq_false hin] at hlk
        have hva := valid_any (bs ns[i]) wr (by rw [bs_size]; exact hln)
        rw [show (bs ns[i]).data.toList = ns[i] from rfl] at hva
        have HIN := Lib.hid hin
        clear hin
        cases hvb : valid ns[i] with
        | false =>
          rw [hvb] at hva
          have hrf : r = false := HR.out.trans (decide_eq_false (fun h => by have := (h i hlt hlt).2; rw [hvb] at this; cases this))
          have HRF := Lib.hid hrf
          clear hvb hrf HR
          go_wp2_with (go_at_call 56; (with_reducible refine hva.mono ?_); rintro e w1 ⟨rfl, hb1⟩)
          exact bodyPost_ret (v := .bool false) (by simp [results, Try.results57, go_sem]) rfl ⟨by rw [HRF.out], hbl.trans (hb1.mono hbl.size)⟩
        | true =>
          rw [hvb] at hva
          have HVB := Lib.hid hvb
          have htk : (ns.take i).length < maxLen := by rw [List.length_take]; unfold maxLen; omega
          have hta : ns.take (i + 1) = ns.take i ++ [ns[i]] := by rw [List.take_add_one, List.getElem?_eq_getElem hlt]; rfl
          have HTA := Lib.hid hta
          clear hvb hta
          go_wp2_with (first
            | (go_at_call 56; (with_reducible refine hva.mono ?_); rintro e w1 ⟨rfl, hb1⟩; have hset1 := hset.kept (gb_of (r := none) hb1) (by simp))
            | (at_mapUpdate; refine wpList_told _ rfl _ _ _ rfl _ (ns.take i) rfl hset1 htk ns[i] (by unfold maxLen; omega) rfl rfl ?_; intro w2 hs2 hg2))
          go_roundw
          case rel =>
            have hb2 := hbl.trans (hb1.mono hbl.size)
            exact ⟨i + 1, by omega, by go_num, hb2.grown hg2 hb2.size (fun j hj => by cases hj; exact Nat.le_refl _), Nat.lt_of_lt_of_le hbs (Nat.le_trans hb1.size hg2.size), by rw [HTA.out]; exact hs2, fun m h h2 => by
              by_cases hm : m = i
              · subst hm; exact ⟨HIN.out, HVB.out⟩
              · exact HK.out m h (by omega)⟩
          case measure => simp [intOf]; omega
    · obtain rfl : i = ns.length := by omega
      have tl : decide ((ns.length : Int) < (ns.length : Int)) = false := decide_eq_false (by omega)
      have hrt : r = true := HR.out.trans (decide_eq_true HK.out)
      have HRT := Lib.hid hrt
      clear hrt HR
      go_wp2
      exact bodyPost_ret (v := .bool true) (by simp [results, Try.results57, go_sem]) rfl ⟨by rw [HRT.out], hbl⟩

end Go.Proofs.Ythbpkmmnoeikoaa
