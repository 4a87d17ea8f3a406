/-
  Several texts in one, each with its own head below. Conditions: as each says.
-/
import Derived.Test.YthbpkmmnoeikoaaJsonYAJm
import Derived.Test.YthbpkmmnoeikoaaJsonYBJm
import Derived.Test.YthbpkmmnoeikoaaJm20
import Derived.Test.YthbpkmmnoeikoaaJm21
/-
  The reference's Parse: the thing of a text, or where it is wrong. Condition: a text of at most 90000 bytes.
-/
namespace Go.Proofs.Ythbpkmmnoeikoaa
open Go Go.RowKit
set_option linter.unusedVariables false
set_option linter.unusedSimpArgs false

theorem sthing_any (s : ByteArray) (hs : s.size ≤ 90000) : ∀ (n : Nat) (d : Int), d ≤ 1000000 → -9223372036854775808 ≤ d → RThOk s d (Js.thing n s.data.toList d)
  | 0, d, _, _ => by
    intro β R G rb a er t W hF ht hr h
    by_cases he : er = 0
    · subst he
      exact absurd h.eq hF
    · exact sthing_not s d rb a er t W R _ G _ hr ht he h
  | n + 1, d, hd, hd2 => by
    intro β R G rb a er t W hF ht hr h
    by_cases he : er = 0
    · subst he
      have IH : 0 < d → RThOk s (d - 1) (Js.thing n s.data.toList (d - 1)) := fun hd0 => sthing_any s hs n (d - 1) (by omega) (by omega)
      by_cases h1 : t.kind = 1
      · exact sthing_list s n d hs hd hd2 IH rb a t W R G hF hr ht h1 h.eq
      by_cases h3 : t.kind = 3
      · exact sthing_obj s n d hs hd hd2 IH rb a t W R G hF hr ht h3 h.eq
      exact sthing_leaf s n d (by omega) rb a t W R G hF hr ht h1 h3 h.eq
    · exact sthing_not s d rb a er t W R _ G _ hr ht he h

theorem parse_bind (l : List UInt8) (d : Int) : Js.parse l d = Js.bd (Js.nx l Tk.zero) (fun t => Js.bd (Js.thing (d.toNat + 1) l d t) (fun p => if p.2.kind = 0 then .ok p.1 else .error (some (p.2.at', 2)))) := by
  unfold Js.parse
  cases Js.nx l Tk.zero with
  | error e => rfl
  | ok t =>
    have hb : ∀ g : Tk.Tok → Js.Re Js.J, Js.bd (Except.ok t : Js.Re Tk.Tok) g = g t := fun g => rfl
    rw [hb]
    dsimp only
    cases Js.thing (d.toNat + 1) l d t <;> rfl
theorem parse_fu (l : List UInt8) (d : Int) : Js.Fu (Js.parse l d) := by
  intro h
  unfold Js.parse at h
  cases hn : Js.nx l Tk.zero with
  | error e => rw [hn] at h; obtain ⟨e1, _⟩ := Js.nx_err hn; rw [e1] at h; cases h
  | ok t =>
    rw [hn] at h
    dsimp only at h
    have hf := Js.thing_fu l (d.toNat + 1) d t (by omega) (Js.nx_wf hn (Nat.zero_le _)).1
    cases ht : Js.thing (d.toNat + 1) l d t with
    | error e => rw [ht] at h; cases h; exact hf ht
    | ok p =>
      rw [ht] at h
      dsimp only at h
      split at h <;> cases h

/-- the result is laid -/
theorem pr_end {w wz : World} {z0 z1 z2 z3 z4 v0 v1 v2 v3 v4 : Value} (hb : Below w.heap.size w wz) (hz : wz.heap[w.heap.size]? = some (.cells #[z0, z1, z2, z3, z4] 41 (0, 0))) :
    ∃ wf, wf = ((((wz.setCell ⟨w.heap.size, 0, none⟩ v0).setCell ⟨w.heap.size, 1, none⟩ v1).setCell ⟨w.heap.size, 2, none⟩ v2).setCell ⟨w.heap.size, 3, none⟩ v3).setCell ⟨w.heap.size, 4, none⟩ v4 ∧
      wf.heap[w.heap.size]? = some (.cells #[v0, v1, v2, v3, v4] 41 (0, 0)) ∧ Below w.heap.size w wf ∧ wf.heap.size = wz.heap.size ∧ ∀ b, b ≠ w.heap.size → wf.heap[b]? = wz.heap[b]? := by
  refine ⟨_, rfl, row_set (row_set (row_set (row_set (row_set hz 0 _) 1 _) 2 _) 3 _) 4 _, hb.trans (tok_below5 wz w.heap.size _ _ _ _ _), by simp [World.setCell], fun b hb => ?_⟩
  exact (heap_setCell_other _ ⟨w.heap.size, 4, none⟩ b _ hb).trans ((heap_setCell_other _ ⟨w.heap.size, 3, none⟩ b _ hb).trans ((heap_setCell_other _ ⟨w.heap.size, 2, none⟩ b _ hb).trans ((heap_setCell_other _ ⟨w.heap.size, 1, none⟩ b _ hb).trans (heap_setCell_other _ ⟨w.heap.size, 0, none⟩ b _ hb))))
theorem rp_start (w : World) (s : ByteArray) (o : Obj) : ((w.alloc o).alloc (.cells #[.string s, .int .i64 0, .int .i64 0, .int .i64 0, .int .i64 0, .int .i64 0, .string ⟨#[]⟩, .int .i64 0, .int .i64 0] 86)).heap[w.heap.size]? = some o ∧
    SeC ((w.alloc o).alloc (.cells #[.string s, .int .i64 0, .int .i64 0, .int .i64 0, .int .i64 0, .int .i64 0, .string ⟨#[]⟩, .int .i64 0, .int .i64 0] 86)) (w.heap.size + 1) s 0 0 Tk.zero ∧
    Below w.heap.size w ((w.alloc o).alloc (.cells #[.string s, .int .i64 0, .int .i64 0, .int .i64 0, .int .i64 0, .int .i64 0, .string ⟨#[]⟩, .int .i64 0, .int .i64 0] 86)) ∧
    ((w.alloc o).alloc (.cells #[.string s, .int .i64 0, .int .i64 0, .int .i64 0, .int .i64 0, .int .i64 0, .string ⟨#[]⟩, .int .i64 0, .int .i64 0] 86)).heap.size = w.heap.size + 2 := by
  obtain ⟨h0, h1, hb⟩ := two_blk (w := w) (o0 := o) (o1 := .cells #[.string s, .int .i64 0, .int .i64 0, .int .i64 0, .int .i64 0, .int .i64 0, .string ⟨#[]⟩, .int .i64 0, .int .i64 0] 86)
  exact ⟨h0, h1, hb, by simp⟩

set_option maxRecDepth 100000 in
set_option maxHeartbeats 4000000 in
theorem jrparse_any (s : ByteArray) (d : Int) (w : World) (hs : s.size ≤ 90000) (hd : d ≤ 1000000) (hd2 : -9223372036854775808 ≤ d) :
    Calls Try.prog 26 #[.string s, .int .i64 d] w (PaPost s w (Js.parse s.data.toList d)) := by
  obtain ⟨R, hR⟩ : ∃ R, R = Js.parse s.data.toList d := ⟨_, rfl⟩
  have hF : Js.Fu R := by rw [hR]; exact parse_fu _ _
  rw [← hR]
  rw [parse_bind] at hR
  have HR := Lib.hid hR
  clear hR
  obtain ⟨hz, hrc, hb, hsz⟩ := rp_start w s (.cells #[.int .i64 0, .int .i64 0, .string ⟨#[]⟩, .slice none 0 0, .slice none 0 0] 41)
  go_enter Try.func26, Try.ntmps26
  go_wp2_with fail
  generalize (w.alloc (.cells #[.int .i64 0, .int .i64 0, .string ⟨#[]⟩, .slice none 0 0, .slice none 0 0] 41)).alloc (.cells #[.string s, .int .i64 0, .int .i64 0, .int .i64 0, .int .i64 0, .int .i64 0, .string ⟨#[]⟩, .int .i64 0, .int .i64 0] 86) = W at *
  refine (sstep_cps s (w.heap.size + 1) Tk.zero 0 0 W R _ (by omega) (Nat.zero_le _) hrc hF (.inl ⟨rfl, HR.out⟩)).mono ?_
  rintro e w1 ⟨rfl, hg1, a1, er1, t1, ht1, hr1, hh1⟩
  have hb1 := hb.grown hg1 (by omega) (fun j hj => by cases hj; omega)
  have hz1 := (hg1.block w.heap.size (by omega) (by simp)).trans hz
  have hs1 := hg1.size
  have hth := sthing_any s hs (d.toNat + 1) d hd hd2 Js.J R _ (w.heap.size + 1) a1 er1 t1 w1 hF ht1 hr1 hh1
  clear hh1 HR hg1 hz hb hrc hr1
  go_wp2_with fail
  refine hth.mono ?_
  rintro e w2 ⟨hg2, v, k, j, a2, er2, t2, rfl, ht2, hr2, hj, hh2⟩
  obtain ⟨a, b, x, p1, n1, q1, p2, n2, q2, rfl⟩ := hj.form2
  have hb2 := hb1.grown hg2 (by omega) (fun j hj => by cases hj; omega)
  have hz2 := (hg2.block w.heap.size (by omega) (by simp)).trans hz1
  have hs2 := hg2.size
  have hbx : Below w2.heap.size w2 (w2.alloc (.cells #[.int .i64 a, .int .i64 b, .string x, .slice p1 n1 q1, .slice p2 n2 q2] 41)) := (Below.refl _ w2).alloc (Nat.le_refl _) _
  have hx3 := heap_alloc_new w2 (.cells #[.int .i64 a, .int .i64 b, .string x, .slice p1 n1 q1, .slice p2 n2 q2] 41)
  have hr3 := se_below hr2 hbx
  have hz3 := (hbx.block w.heap.size (by omega)).trans hz2
  have hb3 := hb2.trans (hbx.mono (by omega))
  have hj3 := JVn.keep (fun _ h => h) (fun c hc => hbx.block c hc.2) _ _ _ hj
  have hs3 := hbx.size
  have hxs : w2.heap.size < (w2.alloc (.cells #[.int .i64 a, .int .i64 b, .string x, .slice p1 n1 q1, .slice p2 n2 q2] 41)).heap.size := by simp
  obtain ⟨c0, c1, c2, c3, c4, c5, c6, c7, c8⟩ := se_cells hr3
  have HJ := Lib.hid hj3
  have HH := Lib.hid hh2
  clear hth hg2 hj hj3 hh2 hr2 hz1 hz2 hb1 hb2
  obtain ⟨w3, hw3⟩ : ∃ w3, w3 = w2.alloc (.cells #[.int .i64 a, .int .i64 b, .string x, .slice p1 n1 q1, .slice p2 n2 q2] 41) := ⟨_, rfl⟩
  by_cases he : er2 = 0
  · subst he
    have te : ((0 : Int) == 0) = true := by decide
    have hq := HH.out.eq
    dsimp only at hq
    by_cases hk : t2.kind = 0
    · have tk : ((t2.kind : Int) != 0) = false := by simp [hk]
      have te2 : ((0 : Int) != 0) = false := by decide
      rw [if_pos hk] at hq
      have HQ := Lib.hid hq
      obtain ⟨y0, y1, y2, y3, y4⟩ := tok_cells hx3
      obtain ⟨z0, z1, z2, z3, z4⟩ := tok_cells hz3
      obtain ⟨v0, v1, v2, v3, v4⟩ := tok_frozen hz3
      obtain ⟨wf, hwf, hwfb, hgf, hsf, hof⟩ := pr_end (v0 := .int .i64 a) (v1 := .int .i64 b) (v2 := .string x) (v3 := .slice p1 n1 q1) (v4 := .slice p2 n2 q2) hb3 hz3
      clear hk hq HH
      go_wp2_with fail
      rw [← hwf]
      obtain ⟨u0, u1, u2, u3, u4⟩ := tok_cells hwfb
      clear hwf y0 y1 y2 y3 y4 z0 z1 z2 z3 z4 v0 v1 v2 v3 v4
      exact bodyPost_ret (v := .tuple #[.agg #[.int .i64 a, .int .i64 b, .string x, .slice p1 n1 q1, .slice p2 n2 q2], .int .i64 (s.size : Int), .int .i64 0]) (by simp [results, Try.results26, go_sem, u0, u1, u2, u3, u4]) rfl
        ⟨hgf, .inl ⟨j, _, k, HQ.out, rfl, JVn.keep (fun c hc => ⟨by omega, by omega⟩) (fun c hc => hof c (by omega)) _ _ _ HJ.out⟩⟩
    · have tk : ((t2.kind : Int) != 0) = true := by simp; omega
      rw [if_neg hk] at hq
      have hf := sfail_cps s (w.heap.size + 1) t2 a2 0 2 _ R (by decide) hr3 (.inl ⟨rfl, hq⟩)
      clear hk hq HH
      go_wp2_with fail
      refine hf.mono ?_
      rintro e w4 ⟨rfl, hg4, a4, er4, he4, hr4, hh4⟩
      have hz4 := (hg4.block w.heap.size (by omega) (by simp)).trans hz3
      have hb4 := hb3.grown hg4 (by omega) (fun j hj => by cases hj; omega)
      have hx4 := (hh4 (fun _ => .error none)).err he4
      clear c0 c1 c2 c3 c4 c5 c6 c7 c8 hf hg4 hh4 hw3 te
      obtain ⟨p, hp, hpa, hpe⟩ := hx4
      have te2 : (er4 != 0) = true := by simp [he4]
      obtain ⟨c0, c1, c2, c3, c4, c5, c6, c7, c8⟩ := se_cells hr4
      obtain ⟨z0, z1, z2, z3, z4⟩ := tok_cells hz4
      obtain ⟨v0, v1, v2, v3, v4⟩ := tok_frozen hz4
      obtain ⟨wf, hwf, hwfb, hgf, hsf, hof⟩ := pr_end (v0 := .int .i64 0) (v1 := .int .i64 0) (v2 := .string ⟨#[]⟩) (v3 := .slice none 0 0) (v4 := .slice none 0 0) hb4 hz4
      have HP := Lib.hid hp
      have HA := Lib.hid hpa
      have HE := Lib.hid hpe
      clear hp hpa hpe he4
      go_wp2_with fail
      go_region
      all_goals (
        go_wp2_with fail
        rw [← hwf]
        obtain ⟨u0, u1, u2, u3, u4⟩ := tok_cells hwfb
        clear hwf z0 z1 z2 z3 z4 v0 v1 v2 v3 v4
        exact bodyPost_ret (v := .tuple #[zJson, .int .i64 a4, .int .i64 er4]) (by simp [results, Try.results26, go_sem, zJson, u0, u1, u2, u3, u4]) rfl ⟨hgf.drew, .inr ⟨p, HP.out, by rw [HA.out, HE.out]⟩⟩)
  · have te : (er2 == 0) = false := by simp [he]
    have hx4 := HH.out.err he
    clear c0 c1 c2 c3 c4 c5 c6 c7 c8 HH hw3
    obtain ⟨p, hp, hpa, hpe⟩ := hx4
    have te2 : (er2 != 0) = true := by simp [he]
    obtain ⟨c0, c1, c2, c3, c4, c5, c6, c7, c8⟩ := se_cells hr3
    obtain ⟨z0, z1, z2, z3, z4⟩ := tok_cells hz3
    obtain ⟨v0, v1, v2, v3, v4⟩ := tok_frozen hz3
    obtain ⟨wf, hwf, hwfb, hgf, hsf, hof⟩ := pr_end (v0 := .int .i64 0) (v1 := .int .i64 0) (v2 := .string ⟨#[]⟩) (v3 := .slice none 0 0) (v4 := .slice none 0 0) hb3 hz3
    have HP := Lib.hid hp
    have HA := Lib.hid hpa
    have HE := Lib.hid hpe
    clear hp hpa hpe he
    go_wp2_with fail
    go_region
    all_goals (
      go_wp2_with fail
      rw [← hwf]
      obtain ⟨u0, u1, u2, u3, u4⟩ := tok_cells hwfb
      clear hwf z0 z1 z2 z3 z4 v0 v1 v2 v3 v4
      exact bodyPost_ret (v := .tuple #[zJson, .int .i64 a2, .int .i64 er2]) (by simp [results, Try.results26, go_sem, zJson, u0, u1, u2, u3, u4]) rfl ⟨hgf.drew, .inr ⟨p, HP.out, by rw [HA.out, HE.out]⟩⟩)

end Go.Proofs.Ythbpkmmnoeikoaa

/-
  The walk of the law JsonParses: json.Parse and the reference's Parse come to the same. No condition but the arguments' own.
-/
namespace Go.Proofs.Ythbpkmmnoeikoaa
open Go Go.RowKit
set_option linter.unusedVariables false
set_option linter.unusedSimpArgs false

/-- a thing, where, an error -/
def PbPost (J : Js.J) (x f : Int) (w : World) (e : Ending) (w' : World) : Prop :=
  Below w.heap.size w w' ∧ ∃ (a b : Int) (s : ByteArray) (p1 : Option Addr) (n1 q1 : Nat) (p2 : Option Addr) (n2 q2 k : Nat), e = .returned (.tuple #[.agg #[.int .i64 a, .int .i64 b, .string s, .slice p1 n1 q1, .slice p2 n2 q2], .int .i64 x, .int .i64 f]) ∧
    JVn k (fun c => w.heap.size ≤ c ∧ c < w'.heap.size) w' (.agg #[.int .i64 a, .int .i64 b, .string s, .slice p1 n1 q1, .slice p2 n2 q2]) J
theorem pb_of {s : ByteArray} {r : Js.Re Js.J} (hr : r ≠ .error none) : ∃ (J : Js.J) (x f : Int), (∀ j, r = .ok j → J = j) ∧ ((∀ j, r ≠ .ok j) → J = .mk 0 0 [] [] []) ∧ ∀ w e w', PaPost s w r e w' → PbPost J x f w e w' := by
  cases r with
  | ok j =>
    refine ⟨j, (s.size : Int), 0, fun j' h => (by cases h; rfl), fun h => absurd rfl (h j), ?_⟩
    rintro w e w' ⟨hb, ⟨j', v, k, hj, rfl, hv⟩ | ⟨p, hp, _⟩⟩
    · cases hj
      obtain ⟨a, b, x, p1, n1, q1, p2, n2, q2, rfl⟩ := hv.form2
      exact ⟨hb, a, b, x, p1, n1, q1, p2, n2, q2, k, rfl, hv⟩
    · cases hp
  | error o =>
    cases o with
    | none => exact absurd rfl hr
    | some p =>
      refine ⟨.mk 0 0 [] [] [], (p.1 : Int), p.2, fun j' h => (by cases h), fun h => rfl, ?_⟩
      rintro w e w' ⟨hb, ⟨j', v, k, hj, rfl, hv⟩ | ⟨p', hp, rfl⟩⟩
      · cases hj
      · cases hp
        exact ⟨hb, 0, 0, ⟨#[]⟩, none, 0, 0, none, 0, 0, 1, rfl, _, _, rfl, ⟨none, 0, rfl, fun i hi => by simp at hi⟩, ⟨none, 0, rfl, fun i hi => by simp at hi⟩⟩
theorem bd_up {n m : Nat} {j : Js.J} (h : Bd n j) (hnm : n ≤ m) : Bd m j := by
  induction h with
  | mk kd c s ns xs h1 h2 h3 ih => exact .mk _ _ _ _ _ (by omega) (by omega) ih
theorem parse_both (s : ByteArray) (d : Int) (hs : s.size ≤ 500) (hd : d ≤ 20) (hd2 : -9223372036854775808 ≤ d) : ∃ (J : Js.J) (x f : Int), Bd 1000000 J ∧
    (∀ w, Calls Try.prog 25 #[.string s, .int .i64 d] w (PbPost J x f w)) ∧ (∀ w, Calls Try.prog 26 #[.string s, .int .i64 d] w (PbPost J x f w)) := by
  obtain ⟨J, x, f, h1, h2, h3⟩ := pb_of (s := s) (parse_fu s.data.toList d)
  refine ⟨J, x, f, ?_, fun w => (jparse_any s d w (by omega) (by omega) hd2).mono (h3 w), fun w => (jrparse_any s d w (by omega) (by omega) hd2).mono (h3 w)⟩
  cases hp : Js.parse s.data.toList d with
  | ok j =>
    rw [h1 j hp]
    have := parse_bd hp
    rw [len_data] at this
    exact bd_up this (by omega)
  | error e =>
    rw [h2 (fun j h => by rw [hp] at h; cases h)]
    exact bd_leaf _ _ _ _

set_option maxRecDepth 100000 in
set_option maxHeartbeats 4000000 in
theorem jsonParses_walk (s : ByteArray) (d : Int) (w : World) (hs : s.size ≤ maxLen) (h1 : -9223372036854775808 ≤ d) (h2 : d ≤ 9223372036854775807) :
    Calls Try.prog 7 #[.string s, .int .i64 d] w fun e w' => e = .returned (.bool true) ∧ Below w.heap.size w w' := by
  have HA := Lib.hid jalive_any
  by_cases hl : s.size > 500
  · have t5 : decide ((s.size : Int) > 500) = true := decide_eq_true (by omega)
    go_enter Try.func7, Try.ntmps7
    go_wp2_with (go_at_call 24; (with_reducible refine (HA.out _).mono ?_); rintro e w1 ⟨rfl, hb1⟩)
    go_ret
    exact ⟨rfl, hb1⟩
  have t5 : decide ((s.size : Int) > 500) = false := decide_eq_false (by omega)
  by_cases hd : d > 20
  · have t6 : decide (d > 20) = true := decide_eq_true hd
    clear hd
    go_enter Try.func7, Try.ntmps7
    go_wp2_with (go_at_call 24; (with_reducible refine (HA.out _).mono ?_); rintro e w1 ⟨rfl, hb1⟩)
    go_ret
    exact ⟨rfl, hb1⟩
  have t6 : decide (d > 20) = false := decide_eq_false hd
  obtain ⟨J, x, f, hB, h3, h4⟩ := parse_both s d (by omega) (by omega) h1
  have HP := Lib.hid h3
  have HR := Lib.hid h4
  clear h3 h4 hd hl
  go_enter Try.func7, Try.ntmps7
  go_wp2_with (go_at_call 24; (with_reducible refine (HA.out _).mono ?_); rintro e w1 ⟨rfl, hb1⟩)
  refine (HP.out _).mono ?_
  rintro e w2 ⟨hb2, a, b, sx, p1, n1, q1, p2, n2, q2, k, rfl, hj⟩
  have hx := heap_alloc_new w2 (.cells #[.int .i64 a, .int .i64 b, .string sx, .slice p1 n1 q1, .slice p2 n2 q2] 41)
  have hxl : w2.heap.size < (w2.alloc (.cells #[.int .i64 a, .int .i64 b, .string sx, .slice p1 n1 q1, .slice p2 n2 q2] 41)).heap.size := by simp
  have hba := (Below.refl w2.heap.size w2).alloc (Nat.le_refl _) (.cells #[.int .i64 a, .int .i64 b, .string sx, .slice p1 n1 q1, .slice p2 n2 q2] 41)
  go_wp2_with fail
  generalize w2.alloc (.cells #[.int .i64 a, .int .i64 b, .string sx, .slice p1 n1 q1, .slice p2 n2 q2] 41) = W2 at *
  refine (HR.out _).mono ?_
  rintro e w3 ⟨hb3, a', b', sx', p1', n1', q1', p2', n2', q2', k', rfl, hj'⟩
  have hy := heap_alloc_new w3 (.cells #[.int .i64 a', .int .i64 b', .string sx', .slice p1' n1' q1', .slice p2' n2' q2'] 41)
  have hyl : w3.heap.size < (w3.alloc (.cells #[.int .i64 a', .int .i64 b', .string sx', .slice p1' n1' q1', .slice p2' n2' q2'] 41)).heap.size := by simp
  have hbb := hb3.alloc hb3.size (.cells #[.int .i64 a', .int .i64 b', .string sx', .slice p1' n1' q1', .slice p2' n2' q2'] 41)
  have hb4 := (Below.refl w3.heap.size w3).alloc (Nat.le_refl _) (.cells #[.int .i64 a', .int .i64 b', .string sx', .slice p1' n1' q1', .slice p2' n2' q2'] 41)
  have hx3 := (hbb.block _ hxl).trans hx
  obtain ⟨x0, x1, x2, x3, x4⟩ := tok_cells hx3
  obtain ⟨y0, y1, y2, y3, y4⟩ := tok_cells hy
  have hj3 := ((hj.upto (fun c h => h.2) hba).upto (fun c h => Nat.lt_of_lt_of_le h.2 (Nat.le_of_lt hxl)) hbb).le (Nat.le_max_left k k')
  have hj4 := (hj'.upto (fun c h => h.2) hb4).le (Nat.le_max_right k k')
  go_wp2_with fail
  generalize w3.alloc (.cells #[.int .i64 a', .int .i64 b', .string sx', .slice p1' n1' q1', .slice p2' n2' q2'] 41) = W3 at *
  have hs2 := hba.size
  have hs3 := hbb.size
  refine (jrsame_any 1000000 (Nat.le_refl _) (max k k') J _ _ _ _ W3 hj3 hj4 (fun c h => by have := h.2; omega) (fun c h => by have := h.2; omega) hB).mono ?_
  rintro e w4 ⟨rfl, hb5⟩
  go_wp2_with fail
  go_ret
  have hs1 := hb1.size
  have hs4 := hb2.size
  exact ⟨by simp, (((hb1.trans (hb2.mono hs1)).trans (hba.mono (by omega))).trans (hbb.mono (by omega))).trans (hb5.mono (by omega))⟩

end Go.Proofs.Ythbpkmmnoeikoaa
