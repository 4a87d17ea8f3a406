/-
  A list's next thing (the reader's first closure), where the thing is read. Condition: as XJsonRow's; the thing by its contract.
-/
import Derived.Test.YthbpkmmnoeikoaaJm11
namespace Go.Proofs.Ythbpkmmnoeikoaa
open Go Go.RowKit
set_option linter.unusedVariables false
set_option linter.unusedSimpArgs false

set_option maxRecDepth 100000 in
set_option maxHeartbeats 8000000 in
theorem joneL_ok (s : ByteArray) (rb : Nat) (d : Int) (th : Tk.Tok → Js.Re (Js.J × Tk.Tok)) (w0 wi : World) (h0 : rb < w0.heap.size) (kd : Int) (bs : Nat) (h3 : w0.heap.size + 3 ≤ bs) (hTH : ThOk s d th)
    (hbox : wi.heap[w0.heap.size]? = some (.cells #[.pointer (some ⟨rb, 0, none⟩)] 79 (0, 0))) (m : Nat) (q : Js.St) (t : Tk.Tok) (W : World) (hm : m ≤ 100000) (ht : t.end' ≤ s.size)
    (hI : LI w0 wi rb kd bs m q W) (hr : RdC W rb s t d) (hF : Js.Fu (Js.oneL th q t)) (y : Js.J × Tk.Tok) (hth : th t = .ok y) :
    Calls Try.prog 83 #[.pointer (some ⟨w0.heap.size + 2, 0, none⟩), .pointer (some ⟨w0.heap.size, 0, none⟩)] W (OnPost rb s d (LI w0 wi rb kd bs (m + 1)) (fun W' => w0.grownBy W' (some rb)) (Js.oneL th q t)) := by
  obtain ⟨i0, hi, hz0, hz1, hz2⟩ := info_parts infoJson
  obtain ⟨hlen, vs, vn, vl, hX⟩ := hI
  have hFt : Js.Fu (th t) := fun e => by unfold Js.oneL at hF; rw [e] at hF; exact hF rfl
  have hxc : W.heap[w0.heap.size + 2]? = some (.cells #[.int .i64 kd, .int .i64 0, .string ⟨#[]⟩, vn, vl] 41 (0, 0)) := by obtain ⟨D, k, h⟩ := hX; exact h.x
  have hbx : W.heap[w0.heap.size]? = some (.cells #[.pointer (some ⟨rb, 0, none⟩)] 79 (0, 0)) := by obtain ⟨D, k, h⟩ := hX; exact (h.fr _ (by omega) (by omega) (by omega)).trans hbox
  have x4 : W.cell? ⟨w0.heap.size + 2, 4, none⟩ = some vl := (cell_of_row _ _ 4 _ _ (0, 0) hxc).trans rfl
  have b0 : W.cell? ⟨w0.heap.size, 0, none⟩ = some (.pointer (some ⟨rb, 0, none⟩)) := (cell_of_row _ _ 0 _ _ (0, 0) hbx).trans rfl
  subst hlen
  obtain ⟨p, cc, rfl⟩ : ∃ p c, vl = .slice p q.2.length c := by obtain ⟨D, k, h⟩ := hX; exact row_form h.own
  have hrlt : rb < W.heap.size := (Array.getElem?_eq_some_iff.1 hr).1
  have hbs : bs ≤ W.heap.size := by obtain ⟨D, k, h⟩ := hX; exact h.size
  have hgW : w0.grownBy W (some rb) := by obtain ⟨D, k, h⟩ := hX; exact h.gr
  have hbz : Below W.heap.size W (W.alloc (.cells zJ 41)).drew := ((Below.refl _ W).alloc (Nat.le_refl _) _).drew
  have hXd := hX.below ((Below.refl _ W).drew) h0 h3
  have hXz := hX.below hbz h0 h3
  have hrd : RdC W.drew rb s t d := hr
  have hrz : RdC (W.alloc (.cells zJ 41)).drew rb s t d := hr.below hbz
  have b0z := cell_below hbz b0
  have x4z := cell_below hbz x4
  unfold Js.oneL
  rw [hth]
  obtain ⟨j, t'⟩ := y
  dsimp only
  have hOK : ∀ W', RdC W' rb s t d → Calls Try.prog 48 #[.pointer (some ⟨rb, 0, none⟩)] W' fun e w' => W'.grownBy w' (some rb) ∧ ∃ (a b : Int) (x : ByteArray) (p1 : Option Addr) (n1 q1 : Nat) (p2 : Option Addr) (n2 q2 k : Nat), e = .returned (.agg #[.int .i64 a, .int .i64 b, .string x, .slice p1 n1 q1, .slice p2 n2 q2]) ∧ RdC w' rb s t' d ∧
      JVn k (fun b => W'.heap.size ≤ b ∧ b < w'.heap.size) w' (.agg #[.int .i64 a, .int .i64 b, .string x, .slice p1 n1 q1, .slice p2 n2 q2]) j := by
    intro W' hr'
    have h1 := hTH rb t W' hr' ht hFt
    rw [hth] at h1
    refine h1.mono ?_
    rintro e w1 ⟨hg1, ⟨j', t'', hx, v, k, rfl, hr1, hj⟩ | ⟨pp, hx, _⟩⟩
    · cases hx
      obtain ⟨a, b, x, p1, n1, q1, p2, n2, q2, rfl⟩ := hj.form2
      exact ⟨hg1, a, b, x, p1, n1, q1, p2, n2, q2, k, rfl, hr1, hj⟩
    · cases hx
  clear hF hFt hTH
  have HOK := Lib.hid hOK
  clear hOK
  have hrx : rb ≠ w0.heap.size + 2 := by omega
  have i1 : (0 : Int) ≤ (q.2.length : Int) := by omega
  have i2 : (q.2.length : Int) < (q.2.length : Int) + 1 := by omega
  have i3 : (q.2.length : Int) < ((q.2.length + 1 : Nat) : Int) := by omega
  have hone : ∀ u ∈ [Value.int .i64 0, .int .i64 0, .string ⟨#[]⟩, .slice none 0 0, .slice none 0 0], u.oneCell' = true := by simp [Value.oneCell']
  have hmx1 : q.2.length + 1 ≤ maxLen := by unfold maxLen; omega
  have hmx2 : (q.2.length + 1) * 80 ≤ 140737488355328 := by omega
  unfold zJ at hrz hbz hXz b0z x4z
  go_enter Try.func83, Try.ntmps83
  go_wp2_with fail
  go_region_law (first
    | (refine step_append_lies _ rfl _ _ 39 rfl bs 41 i0 _ 5 80 Try.underlying39 hi hz0 hz1 hz2 rfl (by decide) _ _ _ rfl (xg_own hX1) ⟨W.heap.size, 0, none⟩ 1 1 [.int .i64 0, .int .i64 0, .string ⟨#[]⟩, .slice none 0 0, .slice none 0 0] rfl rfl (World.news_of_block hzb) hone (by omega) hmx1 hmx2 (xg_size hX1) _ rfl ?_; intro g cap w2 hown hgrow hor hglt; have hX2 := hX1.app h0 h3 hown hgrow hor; have hr2 := rd_app hr1 hgrow (xg_far hX1 h0 h3); have hst := xg_stores hX2 h3; obtain ⟨a0, a1, a2, a3, a4, e0, e1, e2, e3, e4, hgx, xx4, xf4⟩ := hst)
    | (refine step_append_lies _ rfl _ _ 39 rfl bs 41 i0 _ 5 80 Try.underlying39 hi hz0 hz1 hz2 rfl (by decide) _ _ _ rfl (xg_own (hX1.below (zbel w1) h0 h3)) ⟨w1.heap.size, 0, none⟩ 1 1 [.int .i64 0, .int .i64 0, .string ⟨#[]⟩, .slice none 0 0, .slice none 0 0] rfl rfl (World.news_of_block (heap_alloc_new w1 _)) hone (by omega) hmx1 hmx2 (xg_size (hX1.below (zbel w1) h0 h3)) _ rfl ?_; intro g cap w2 hown hgrow hor hglt; have hX2 := (hX1.below (zbel w1) h0 h3).app h0 h3 hown hgrow hor; have hr2 := rd_app (hr1.below (zbel w1)) hgrow (xg_far (hX1.below (zbel w1) h0 h3) h0 h3); have hst := xg_stores hX2 h3; obtain ⟨a0, a1, a2, a3, a4, e0, e1, e2, e3, e4, hgx, xx4, xf4⟩ := hst)
    | (go_simp; go_at_call 48; first
        | ((with_reducible refine (HOK.out _ hrd).mono ?_); rintro e w1 ⟨hg1, a, b, x, p1, n1, q1, p2, n2, q2, k, rfl, hr1, hj⟩; have hX1 := hXd.call hg1 h0 h3 (fun b h => h) hj; have xa := xg_x4 hX1; have xb := xg_x4 (hX1.below (zbel w1) h0 h3))
        | ((with_reducible refine (HOK.out _ hrz).mono ?_); rintro e w1 ⟨hg1, a, b, x, p1, n1, q1, p2, n2, q2, k, rfl, hr1, hj⟩; have hX1 := hXz.call hg1 h0 h3 (fun b h => h) hj; have xa := xg_x4 hX1; have hzb := nx_blk2 hg1 (by omega))))
  all_goals (
    go_end0
    have hgr : g ≠ rb := by have := ((xg_own hX2).lt g rfl).1; omega
    have hxr : w0.heap.size + 2 ≠ rb := by omega
    first
      | (have F1 := ((((((hX2.el h3 h0 (q.2.length * 5) (.int .i64 a)).el h3 h0 (q.2.length * 5 + 1) (.int .i64 b)).el h3 h0 (q.2.length * 5 + 2) (.string x)).el h3 h0 (q.2.length * 5 + 3) (.slice p1 n1 q1)).el h3 h0 (q.2.length * 5 + 4) (.slice p2 n2 q2)).setx h3 h0 (.slice (some ⟨g, 0, none⟩) (q.2.length + 1) cap)).done
         have R1 := (rd_set (rd_set (rd_set (rd_set (rd_set (rd_set hr2 hgr (q.2.length * 5) (.int .i64 a)) hgr (q.2.length * 5 + 1) (.int .i64 b)) hgr (q.2.length * 5 + 2) (.string x)) hgr (q.2.length * 5 + 3) (.slice p1 n1 q1)) hgr (q.2.length * 5 + 4) (.slice p2 n2 q2)) hxr 4 (.slice (some ⟨g, 0, none⟩) (q.2.length + 1) cap))
         with_reducible exact oneL_fin R1 F1)
      | (have F1 := ((((((hX2.setx h3 h0 (.slice (some ⟨g, 0, none⟩) (q.2.length + 1) cap)).el h3 h0 (q.2.length * 5) (.int .i64 a)).el h3 h0 (q.2.length * 5 + 1) (.int .i64 b)).el h3 h0 (q.2.length * 5 + 2) (.string x)).el h3 h0 (q.2.length * 5 + 3) (.slice p1 n1 q1)).el h3 h0 (q.2.length * 5 + 4) (.slice p2 n2 q2)).done
         have R1 := (rd_set (rd_set (rd_set (rd_set (rd_set (rd_set hr2 hxr 4 (.slice (some ⟨g, 0, none⟩) (q.2.length + 1) cap)) hgr (q.2.length * 5) (.int .i64 a)) hgr (q.2.length * 5 + 1) (.int .i64 b)) hgr (q.2.length * 5 + 2) (.string x)) hgr (q.2.length * 5 + 3) (.slice p1 n1 q1)) hgr (q.2.length * 5 + 4) (.slice p2 n2 q2))
         with_reducible exact oneL_fin R1 F1))

end Go.Proofs.Ythbpkmmnoeikoaa
