/-
  The reference's thing, of a list, over the thing of less depth. Condition: a text of at most 90000 bytes.
-/
import Derived.Test.YthbpkmmnoeikoaaJm28
namespace Go.Proofs.Ythbpkmmnoeikoaa
open Go Go.RowKit
set_option linter.unusedVariables false
set_option linter.unusedSimpArgs false

set_option maxRecDepth 100000 in
set_option maxHeartbeats 16000000 in
theorem sthing_list {β : Type} (s : ByteArray) (n : Nat) (d : Int) (hs : s.size ≤ 90000) (hd : d ≤ 1000000) (hd2 : -9223372036854775808 ≤ d) (IHd : 0 < d → RThOk s (d - 1) (Js.thing n s.data.toList (d - 1))) (rb : Nat) (a : Int) (t : Tk.Tok) (w : World) (R : Js.Re β) (G : Js.J × Tk.Tok → Js.Re β) (hF : Js.Fu R) (hr : SeC w rb s a 0 t) (ht : t.end' ≤ s.size) (h1 : t.kind = 1)
    (hq : R = Js.bd (Js.thing (n + 1) s.data.toList d t) G) :
    Calls Try.prog 51 #[.pointer (some ⟨rb, 0, none⟩), .int .i64 d] w (RPost s rb w R G) := by
  have h0 : rb < w.heap.size := (Array.getElem?_eq_some_iff.1 hr).1
  have t0 : ((0 : Int) != 0) = false := by decide
  have hl := len_data s
  obtain ⟨hx0, hx1, hxb⟩ := two_blk (w := w) (o0 := .cells #[.int .i64 0, .int .i64 0, .string ⟨#[]⟩, .slice none 0 0, .slice none 0 0] 41) (o1 := .cells #[.int .i64 0, .int .i64 0, .string ⟨#[]⟩, .slice none 0 0, .slice none 0 0] 41)
  obtain ⟨c0, c1, c2, c3, c4, c5, c6, c7, c8⟩ := se_cells (se_below hr hxb)
  clear hx0 hx1 hxb
  have tk : (t.kind : Int) = 1 := by omega
  rw [Js.thing] at hq
  (try dsimp only at hq)
  rw [if_pos h1] at hq
  by_cases hd0 : d ≤ 0
  · have td : decide (d < 1) = true := decide_eq_true (by omega)
    have hq2 : R = .error (some (t.at', 3)) := by rw [hq]; unfold Js.row; rw [if_pos hd0]; rfl
    have HQ := Lib.hid hq2
    clear hq hq2 h1 hd0
    go_enter Try.func51, Try.ntmps51
    go_wp2_with fail
    simp only [Nat.add_assoc, Nat.reduceAdd]
    clear c0 c1 c2 c3 c4 c5 c6 c7 c8
    refine (sfail_cps s rb t a 0 3 _ R (by decide) (se_below hr (three_blk).2.2.2) (.inl ⟨rfl, HQ.out⟩)).mono ?_
    rintro e w3 ⟨rfl, hg3, a', er', he', hr3, hh⟩
    have hgw : w.grownBy w3 (some rb) := (gb_of (three_blk).2.2.2).trans hg3
    have e2 : w3.heap[w.heap.size + 1]? = _ := (hg3.block _ (by simp) (fun e => by cases e; omega)).trans (three_blk).2.1
    have e1 : w3.heap[w.heap.size]? = _ := (hg3.block _ (by simp; omega) (fun e => by cases e; omega)).trans (three_blk).1
    have HH := Lib.hid hh
    clear hh hg3
    obtain ⟨y0, y1, y2, y3, y4⟩ := tok_cells e2
    obtain ⟨z0, z1, z2, z3, z4⟩ := tok_cells e1
    obtain ⟨v0, v1, v2, v3, v4⟩ := tok_frozen e1
    obtain ⟨wf, hwf, hwfb, hgf, hrf, hj⟩ := yeaf_end (kd := 0) (n := 0) (x := []) (sx := ⟨#[]⟩) rfl h0 hgw hr3 e1
    go_wp2_with fail
    rw [← hwf]
    obtain ⟨u0, u1, u2, u3, u4⟩ := tok_cells hwfb
    clear hwf y0 y1 y2 y3 y4 z0 z1 z2 z3 z4 v0 v1 v2 v3 v4
    exact bodyPost_ret (v := .agg #[.int .i64 0, .int .i64 0, .string ⟨#[]⟩, .slice none 0 0, .slice none 0 0]) (by simp [results, Try.results51, go_sem, u0, u1, u2, u3, u4]) rfl ⟨hgf, _, 1, _, a', er', t, rfl, ht, hrf, hj, HH.out _⟩
  have td : decide (d < 1) = false := decide_eq_false (by omega)
  have hd1 : 0 < d := by omega
  rw [← Js.oneX_L s.data.toList] at hq
  replace hq := hq.trans (Js.bd_row false s.data.toList (Js.thing n s.data.toList (d - 1)) 2 5 d t G hd1)
  have hwd : IntKind.i64.wrap (d - 1) = d - 1 := IntWalk.i64_in _ (by omega)
  have IH := IHd hd1
  clear IHd hd0
  generalize Js.thing n s.data.toList (d - 1) = th at *
  obtain ⟨C, hC⟩ : ∃ C, C = Js.rowC s.data.toList 2 5 G := ⟨_, rfl⟩
  rw [← hC] at hq
  have HCC := Lib.hid hC
  have HQ := Lib.hid hq
  have H1 := Lib.hid h1
  obtain ⟨i0, hi, hz0, hz1, hz2⟩ := info_parts infoJson
  have hone : ∀ u ∈ [Value.int .i64 0, .int .i64 0, .string ⟨#[]⟩, .slice none 0 0, .slice none 0 0], u.oneCell' = true := by simp [Value.oneCell']
  clear hq hC h1
  go_enter Try.func51, Try.ntmps51
  go_wp2_with fail
  simp only [Nat.add_assoc, Nat.reduceAdd]
  clear c0 c1 c2 c3 c4 c5 c6 c7 c8
  refine (sstep_cps s rb t a 0 _ R _ (by omega) ht (se_below hr (three_blk).2.2.2) hF (.inl ⟨rfl, HQ.out⟩)).mono ?_
  rintro e w3 ⟨rfl, hg3, a1, er1, t1, ht1, hr3, hh⟩
  obtain ⟨W0, g0, g1, ⟨y1, y2, y3, y4, g2⟩, gb, gg⟩ : ∃ W0 : World, W0.heap[w.heap.size]? = some (.cells #[.int .i64 0, .int .i64 0, .string ⟨#[]⟩, .slice none 0 0, .slice none 0 0] 41 (0, 0)) ∧ W0.heap[w.heap.size + 1]? = some (.cells #[.int .i64 5, .int .i64 0, .string ⟨#[]⟩, .slice none 0 0, .slice none 0 0] 41 (0, 0)) ∧ (∃ y1 y2 y3 y4, W0.heap[w.heap.size + 2]? = some (.cells #[.int .i64 1, y1, y2, y3, y4] 52 (0, 0))) ∧
      Below w.heap.size w W0 ∧ W0.grownBy w3 (some rb) := ⟨_, (three_blk).1, (three_blk).2.1, ⟨_, _, _, _, (three_blk).2.2.1⟩, (three_blk).2.2.2, hg3⟩
  have hWs : w.heap.size + 3 ≤ W0.heap.size := (Array.getElem?_eq_some_iff.1 g2).1
  have hX3 := (Yg.start (rb := rb) (bs := w.heap.size + 3) gb g1 hWs).reader gg h0 (Nat.le_refl _)
  have HH := Lib.hid hh
  clear hh hg3 g1 gb gg HQ
  go_upto_block 1 with fail
  go_cut [7] (fun s7 wx => YEnd s rb w W0 5 C R wx)
  case first =>
    clear HCC
    go_wp2_with fail
    go_loopg [7] (s.data.toList.length + 3) (fun k s7 wr => YLoop s rb w W0 5 false th 2 C R k s7 wr)
    case atStart => exact ⟨0, 0, ([], []), [], _, _, a1, er1, t1, rfl, Lib.hid rfl, by omega, rfl, Nat.le_refl _, hX3, hr3, ht1, HH⟩
    case round =>
      clear hX3 HH hr3 ht1 hr
      obtain ⟨m, n, q, vs, vn, vl, a2, er2, t2, rfl, HM, hnk, hlen, hnl, hX, hr, ht2, HH⟩ := hrel
      have y2 : wr.cell? ⟨w.heap.size + 2, 0, none⟩ = some (.int .i64 1) := (cell_of_row _ _ 0 _ _ (0, 0) (yg_fr hX g2 (by omega) (by omega) (by omega))).trans rfl
      obtain ⟨c0, c1, c2, c3, c4, c5', c6, c7, c8⟩ := se_cells hr
      by_cases he : er2 = 0
      case neg =>
        have t1 : (er2 == 0) = false := by simp [he]
        have HE := Lib.hid he
        clear he
        go_wp2_with fail
        go_quiet (fail)
        go_wp2_with fail
        go_meet
        case rel => exact ⟨q, vs, vn, vl, a2, er2, t2, hX.below (below_drewN (Below.refl _ wr) nq) h0 (Nat.le_refl _), se_below hr (below_drewN (Below.refl _ wr) nq), ht2, Lib.hid (HH.out.any HE.out _ _)⟩
      subst he
      have t1 : ((0 : Int) == 0) = true := by decide
      have hq := HH.out.eq
      (try dsimp only at hq)
      have hnb := Js.stA_out hq hF
      have hm0 : 0 ≤ m ∧ m ≤ 100000 := by have := HM.out; omega
      obtain ⟨hm1, hm2⟩ := hm0
      by_cases hn0 : n = 0
      · have tm : decide (m > 0) = false := decide_eq_false (by have := HM.out; omega)
        by_cases hk : t2.kind = 2
        · have tk2 : ((t2.kind : Int) != 2) = false := by simp [hk]
          rw [hn0, Js.stA_close hk] at hq
          have HQ := Lib.hid hq
          clear hk hq hn0
          go_wp2_with fail
          go_quiet (fail)
          go_wp2_with fail
          go_meet
          case rel => exact ⟨q, vs, vn, vl, a2, 0, t2, hX.below (below_drewN (Below.refl _ wr) nq) h0 (Nat.le_refl _), se_below hr (below_drewN (Below.refl _ wr) nq), ht2, Lib.hid (.inl ⟨rfl, HQ.out⟩)⟩
        · have tk2 : ((t2.kind : Int) != 2) = true := by simp; omega
          rw [hn0, Js.stA_first hk, ← hn0] at hq
          have HB : Hid (Js.Hit R (fun t => Js.stB false s.data.toList th C n q t) a2 0 t2) := Lib.hid (.inl ⟨rfl, hq⟩)
          clear hk hq hn0 HH
          go_wp2_with fail
          go_quiet (fail)
          have hXb := hX.below (below_drewN (Below.refl _ wr) nq) h0 (Nat.le_refl _)
          have hrb : SeC (wr.drewN nq) rb s a2 0 t2 := se_below hr (below_drewN (Below.refl _ wr) nq)
          clear hX hr y2 c0 c1 c2 c3 c4 c5' c6 c7 c8
          generalize wr.drewN nq = wb at *
          obtain ⟨c0, c1, c2, c3, c4, c5', c6, c7, c8⟩ := se_cells hrb
          obtain ⟨ab, hab⟩ : ∃ x : Int, x = a2 := ⟨_, rfl⟩
          obtain ⟨erb, herb⟩ : ∃ x : Int, x = 0 := ⟨_, rfl⟩
          obtain ⟨tb, htb0⟩ : ∃ x, x = t2 := ⟨_, rfl⟩
          have htb := ht2
          rw [← hab, ← herb, ← htb0] at hrb HB
          rw [← htb0] at htb
          clear hab herb htb0 ht2 t1
          have HC : Hid (Js.Hit R (fun t => Js.stC false s.data.toList th 2 C n q.1 q.2 t) ab erb tb) := Lib.hid (Js.hit_B (cl := 2) hF HB.out)
          have y2 : wb.cell? ⟨w.heap.size + 2, 0, none⟩ = some (.int .i64 1) := (cell_of_row _ _ 0 _ _ (0, 0) (yg_fr hXb g2 (by omega) (by omega) (by omega))).trans rfl
          go_wp2_with fail
          obtain ⟨W5, hW5⟩ : ∃ W5, W5 = wb := ⟨_, rfl⟩
          obtain ⟨ns5, hns5⟩ : ∃ ns5, ns5 = q.1 := ⟨_, rfl⟩
          have hX5 := hXb
          have hr5 := hrb
          have ht5 := htb
          have hnn : ns5.length ≤ n + 1 := by rw [hns5]; omega
          rw [← hns5] at hX5 HC
          rw [← hW5] at hX5 hr5 ⊢
          clear hW5 hns5 hXb hrb y2
          generalize ab = a5, erb = er5, tb = t5 at *

          subst hlen
          obtain ⟨p, cc, rfl⟩ : ∃ p c, vl = .slice p q.2.length c := row_form (yg_own hX5)
          have hrlt : rb < W5.heap.size := (Array.getElem?_eq_some_iff.1 hr5).1
          have x4 : W5.cell? ⟨w.heap.size + 1, 4, none⟩ = some (.slice p q.2.length cc) := yg_x4 hX5
          have hbz : Below W5.heap.size W5 (W5.alloc (.cells zJ 41)).drew := ((Below.refl _ W5).alloc (Nat.le_refl _) _).drew
          have hXd := hX5.below ((Below.refl _ W5).drew) h0 (Nat.le_refl _)
          have hXz := hX5.below hbz h0 (Nat.le_refl _)
          have hrd : SeC W5.drew rb s a5 er5 t5 := hr5
          have hrz : SeC (W5.alloc (.cells zJ 41)).drew rb s a5 er5 t5 := se_below hr5 hbz
          have x4z := cell_below hbz x4
          have HOK := rth_form IH R hF rb false 2 C q.2.length ns5 q.2 a5 er5 t5 ht5 HC.out
          have hrx : rb ≠ w.heap.size + 1 := by omega
          have i1 : (0 : Int) ≤ (q.2.length : Int) := by omega
          have i2 : (q.2.length : Int) < (q.2.length : Int) + 1 := by omega
          have i3 : (q.2.length : Int) < ((q.2.length + 1 : Nat) : Int) := by omega
          have hmx1 : q.2.length + 1 ≤ maxLen := by unfold maxLen; omega
          have hmx2 : (q.2.length + 1) * 80 ≤ 140737488355328 := by omega
          unfold zJ at hrz hbz hXz x4z
          clear c0 c1 c2 c3 c4 c5' c6 c7 c8
          go_region_law (first
            | (refine step_append_lies _ rfl _ _ 39 rfl (w.heap.size + 3) 41 i0 _ 5 80 Try.underlying39 hi hz0 hz1 hz2 rfl (by decide) _ _ _ rfl (yg_own hX1) ⟨W5.heap.size, 0, none⟩ 1 1 [.int .i64 0, .int .i64 0, .string ⟨#[]⟩, .slice none 0 0, .slice none 0 0] rfl rfl (World.news_of_block hzb) hone (by omega) hmx1 hmx2 (yg_size hX1) _ rfl ?_; intro g cap w2 hown hgrow hor hglt; have hX2 := hX1.app h0 (Nat.le_refl _) hown hgrow hor; have hr2 := se_app hr1 hgrow (yg_far hX1 h0 (Nat.le_refl _)); have hst := yg_stores hX2 (Nat.le_refl _); obtain ⟨a0, a1, a2, a3, a4, e0, e1, e2, e3, e4, hgx, xx4, xf4⟩ := hst)
            | (refine step_append_lies _ rfl _ _ 39 rfl (w.heap.size + 3) 41 i0 _ 5 80 Try.underlying39 hi hz0 hz1 hz2 rfl (by decide) _ _ _ rfl (yg_own (hX1.below (zbel w1) h0 (Nat.le_refl _))) ⟨w1.heap.size, 0, none⟩ 1 1 [.int .i64 0, .int .i64 0, .string ⟨#[]⟩, .slice none 0 0, .slice none 0 0] rfl rfl (World.news_of_block (heap_alloc_new w1 _)) hone (by omega) hmx1 hmx2 (yg_size (hX1.below (zbel w1) h0 (Nat.le_refl _))) _ rfl ?_; intro g cap w2 hown hgrow hor hglt; have hX2 := (hX1.below (zbel w1) h0 (Nat.le_refl _)).app h0 (Nat.le_refl _) hown hgrow hor; have hr2 := se_app (se_below hr1 (zbel w1)) hgrow (yg_far (hX1.below (zbel w1) h0 (Nat.le_refl _)) h0 (Nat.le_refl _)); have hst := yg_stores hX2 (Nat.le_refl _); obtain ⟨a0, a1, a2, a3, a4, e0, e1, e2, e3, e4, hgx, xx4, xf4⟩ := hst)
            | (go_simp; go_at_call 51; first
                | ((with_reducible refine (HOK.out _ hrd).mono ?_); rintro e w1 ⟨hg1, ka, kb, x, p1, n1, q1, p2, n2, q2, k, j, a1', er1', t1', rfl, ht1', hr1, hj, HH1⟩; have hX1 := hXd.call hg1 h0 (Nat.le_refl _) (fun b h => h) hj; have xa := yg_x4 hX1; have xb := yg_x4 (hX1.below (zbel w1) h0 (Nat.le_refl _)))
                | ((with_reducible refine (HOK.out _ hrz).mono ?_); rintro e w1 ⟨hg1, ka, kb, x, p1, n1, q1, p2, n2, q2, k, j, a1', er1', t1', rfl, ht1', hr1, hj, HH1⟩; have hX1 := hXz.call hg1 h0 (Nat.le_refl _) (fun b h => h) hj; have xa := yg_x4 hX1; have hzb := nx_blk2 hg1 (by omega))))
          all_goals (
            go_wp2_with fail
            go_roundg (gk - 1)
            case measure => omega
            case rel =>
              have hgr : g ≠ rb := by have := ((yg_own hX2).lt g rfl).1; omega
              have hxr : w.heap.size + 1 ≠ rb := by omega
              have hgk1 : 1 ≤ gk := by omega
              have hml : m + 1 = ((q.2.length + 1 : Nat) : Int) := by have := HM.out; omega
              first
                | (have F1 := ((((((hX2.el (Nat.le_refl _) h0 (q.2.length * 5) (.int .i64 ka)).el (Nat.le_refl _) h0 (q.2.length * 5 + 1) (.int .i64 kb)).el (Nat.le_refl _) h0 (q.2.length * 5 + 2) (.string x)).el (Nat.le_refl _) h0 (q.2.length * 5 + 3) (.slice p1 n1 q1)).el (Nat.le_refl _) h0 (q.2.length * 5 + 4) (.slice p2 n2 q2)).setx (Nat.le_refl _) h0 (.slice (some ⟨g, 0, none⟩) (q.2.length + 1) cap)).done
                   have R1 := (se_set (se_set (se_set (se_set (se_set (se_set hr2 hgr (q.2.length * 5) (.int .i64 ka)) hgr (q.2.length * 5 + 1) (.int .i64 kb)) hgr (q.2.length * 5 + 2) (.string x)) hgr (q.2.length * 5 + 3) (.slice p1 n1 q1)) hgr (q.2.length * 5 + 4) (.slice p2 n2 q2)) hxr 4 (.slice (some ⟨g, 0, none⟩) (q.2.length + 1) cap))
                   with_reducible exact yloop_fin hml hnk hgk1 hnn F1 R1 ht1' HH1)
                | (have F1 := ((((((hX2.setx (Nat.le_refl _) h0 (.slice (some ⟨g, 0, none⟩) (q.2.length + 1) cap)).el (Nat.le_refl _) h0 (q.2.length * 5) (.int .i64 ka)).el (Nat.le_refl _) h0 (q.2.length * 5 + 1) (.int .i64 kb)).el (Nat.le_refl _) h0 (q.2.length * 5 + 2) (.string x)).el (Nat.le_refl _) h0 (q.2.length * 5 + 3) (.slice p1 n1 q1)).el (Nat.le_refl _) h0 (q.2.length * 5 + 4) (.slice p2 n2 q2)).done
                   have R1 := (se_set (se_set (se_set (se_set (se_set (se_set hr2 hxr 4 (.slice (some ⟨g, 0, none⟩) (q.2.length + 1) cap)) hgr (q.2.length * 5) (.int .i64 ka)) hgr (q.2.length * 5 + 1) (.int .i64 kb)) hgr (q.2.length * 5 + 2) (.string x)) hgr (q.2.length * 5 + 3) (.slice p1 n1 q1)) hgr (q.2.length * 5 + 4) (.slice p2 n2 q2))
                   with_reducible exact yloop_fin hml hnk hgk1 hnn F1 R1 ht1' HH1))
      · have tm : decide (m > 0) = true := decide_eq_true (by have := HM.out; omega)
        by_cases hk : t2.kind = 6
        · have tk2 : ((t2.kind : Int) != 6) = false := by simp [hk]
          rw [Js.stA_more hnb hn0 hk] at hq
          have HQ := Lib.hid hq
          clear hk hq HH
          go_wp2_with fail
          go_quiet (fail)
          go_wp2_with fail
          refine (sstep_cps s rb t2 a2 0 _ R _ (by omega) ht2 (se_below hr (below_drewN (Below.refl _ wr) nq)) hF (.inl ⟨rfl, HQ.out⟩)).mono ?_
          rintro e wb ⟨rfl, hgb, ab, erb, tb, htb, hrb, hhb⟩
          have hXb := (hX.below (below_drewN (Below.refl _ wr) nq) h0 (Nat.le_refl _)).reader hgb h0 (Nat.le_refl _)
          have HB := Lib.hid hhb
          clear hhb hgb hX hr y2 c0 c1 c2 c3 c4 c5' c6 c7 c8 HQ t1
          obtain ⟨c0, c1, c2, c3, c4, c5', c6, c7, c8⟩ := se_cells hrb
          have HC : Hid (Js.Hit R (fun t => Js.stC false s.data.toList th 2 C n q.1 q.2 t) ab erb tb) := Lib.hid (Js.hit_B (cl := 2) hF HB.out)
          have y2 : wb.cell? ⟨w.heap.size + 2, 0, none⟩ = some (.int .i64 1) := (cell_of_row _ _ 0 _ _ (0, 0) (yg_fr hXb g2 (by omega) (by omega) (by omega))).trans rfl
          go_wp2_with fail
          obtain ⟨W5, hW5⟩ : ∃ W5, W5 = wb := ⟨_, rfl⟩
          obtain ⟨ns5, hns5⟩ : ∃ ns5, ns5 = q.1 := ⟨_, rfl⟩
          have hX5 := hXb
          have hr5 := hrb
          have ht5 := htb
          have hnn : ns5.length ≤ n + 1 := by rw [hns5]; omega
          rw [← hns5] at hX5 HC
          rw [← hW5] at hX5 hr5 ⊢
          clear hW5 hns5 hXb hrb y2
          generalize ab = a5, erb = er5, tb = t5 at *

          subst hlen
          obtain ⟨p, cc, rfl⟩ : ∃ p c, vl = .slice p q.2.length c := row_form (yg_own hX5)
          have hrlt : rb < W5.heap.size := (Array.getElem?_eq_some_iff.1 hr5).1
          have x4 : W5.cell? ⟨w.heap.size + 1, 4, none⟩ = some (.slice p q.2.length cc) := yg_x4 hX5
          have hbz : Below W5.heap.size W5 (W5.alloc (.cells zJ 41)).drew := ((Below.refl _ W5).alloc (Nat.le_refl _) _).drew
          have hXd := hX5.below ((Below.refl _ W5).drew) h0 (Nat.le_refl _)
          have hXz := hX5.below hbz h0 (Nat.le_refl _)
          have hrd : SeC W5.drew rb s a5 er5 t5 := hr5
          have hrz : SeC (W5.alloc (.cells zJ 41)).drew rb s a5 er5 t5 := se_below hr5 hbz
          have x4z := cell_below hbz x4
          have HOK := rth_form IH R hF rb false 2 C q.2.length ns5 q.2 a5 er5 t5 ht5 HC.out
          have hrx : rb ≠ w.heap.size + 1 := by omega
          have i1 : (0 : Int) ≤ (q.2.length : Int) := by omega
          have i2 : (q.2.length : Int) < (q.2.length : Int) + 1 := by omega
          have i3 : (q.2.length : Int) < ((q.2.length + 1 : Nat) : Int) := by omega
          have hmx1 : q.2.length + 1 ≤ maxLen := by unfold maxLen; omega
          have hmx2 : (q.2.length + 1) * 80 ≤ 140737488355328 := by omega
          unfold zJ at hrz hbz hXz x4z
          clear c0 c1 c2 c3 c4 c5' c6 c7 c8
          go_region_law (first
            | (refine step_append_lies _ rfl _ _ 39 rfl (w.heap.size + 3) 41 i0 _ 5 80 Try.underlying39 hi hz0 hz1 hz2 rfl (by decide) _ _ _ rfl (yg_own hX1) ⟨W5.heap.size, 0, none⟩ 1 1 [.int .i64 0, .int .i64 0, .string ⟨#[]⟩, .slice none 0 0, .slice none 0 0] rfl rfl (World.news_of_block hzb) hone (by omega) hmx1 hmx2 (yg_size hX1) _ rfl ?_; intro g cap w2 hown hgrow hor hglt; have hX2 := hX1.app h0 (Nat.le_refl _) hown hgrow hor; have hr2 := se_app hr1 hgrow (yg_far hX1 h0 (Nat.le_refl _)); have hst := yg_stores hX2 (Nat.le_refl _); obtain ⟨a0, a1, a2, a3, a4, e0, e1, e2, e3, e4, hgx, xx4, xf4⟩ := hst)
            | (refine step_append_lies _ rfl _ _ 39 rfl (w.heap.size + 3) 41 i0 _ 5 80 Try.underlying39 hi hz0 hz1 hz2 rfl (by decide) _ _ _ rfl (yg_own (hX1.below (zbel w1) h0 (Nat.le_refl _))) ⟨w1.heap.size, 0, none⟩ 1 1 [.int .i64 0, .int .i64 0, .string ⟨#[]⟩, .slice none 0 0, .slice none 0 0] rfl rfl (World.news_of_block (heap_alloc_new w1 _)) hone (by omega) hmx1 hmx2 (yg_size (hX1.below (zbel w1) h0 (Nat.le_refl _))) _ rfl ?_; intro g cap w2 hown hgrow hor hglt; have hX2 := (hX1.below (zbel w1) h0 (Nat.le_refl _)).app h0 (Nat.le_refl _) hown hgrow hor; have hr2 := se_app (se_below hr1 (zbel w1)) hgrow (yg_far (hX1.below (zbel w1) h0 (Nat.le_refl _)) h0 (Nat.le_refl _)); have hst := yg_stores hX2 (Nat.le_refl _); obtain ⟨a0, a1, a2, a3, a4, e0, e1, e2, e3, e4, hgx, xx4, xf4⟩ := hst)
            | (go_simp; go_at_call 51; first
                | ((with_reducible refine (HOK.out _ hrd).mono ?_); rintro e w1 ⟨hg1, ka, kb, x, p1, n1, q1, p2, n2, q2, k, j, a1', er1', t1', rfl, ht1', hr1, hj, HH1⟩; have hX1 := hXd.call hg1 h0 (Nat.le_refl _) (fun b h => h) hj; have xa := yg_x4 hX1; have xb := yg_x4 (hX1.below (zbel w1) h0 (Nat.le_refl _)))
                | ((with_reducible refine (HOK.out _ hrz).mono ?_); rintro e w1 ⟨hg1, ka, kb, x, p1, n1, q1, p2, n2, q2, k, j, a1', er1', t1', rfl, ht1', hr1, hj, HH1⟩; have hX1 := hXz.call hg1 h0 (Nat.le_refl _) (fun b h => h) hj; have xa := yg_x4 hX1; have hzb := nx_blk2 hg1 (by omega))))
          all_goals (
            go_wp2_with fail
            go_roundg (gk - 1)
            case measure => omega
            case rel =>
              have hgr : g ≠ rb := by have := ((yg_own hX2).lt g rfl).1; omega
              have hxr : w.heap.size + 1 ≠ rb := by omega
              have hgk1 : 1 ≤ gk := by omega
              have hml : m + 1 = ((q.2.length + 1 : Nat) : Int) := by have := HM.out; omega
              first
                | (have F1 := ((((((hX2.el (Nat.le_refl _) h0 (q.2.length * 5) (.int .i64 ka)).el (Nat.le_refl _) h0 (q.2.length * 5 + 1) (.int .i64 kb)).el (Nat.le_refl _) h0 (q.2.length * 5 + 2) (.string x)).el (Nat.le_refl _) h0 (q.2.length * 5 + 3) (.slice p1 n1 q1)).el (Nat.le_refl _) h0 (q.2.length * 5 + 4) (.slice p2 n2 q2)).setx (Nat.le_refl _) h0 (.slice (some ⟨g, 0, none⟩) (q.2.length + 1) cap)).done
                   have R1 := (se_set (se_set (se_set (se_set (se_set (se_set hr2 hgr (q.2.length * 5) (.int .i64 ka)) hgr (q.2.length * 5 + 1) (.int .i64 kb)) hgr (q.2.length * 5 + 2) (.string x)) hgr (q.2.length * 5 + 3) (.slice p1 n1 q1)) hgr (q.2.length * 5 + 4) (.slice p2 n2 q2)) hxr 4 (.slice (some ⟨g, 0, none⟩) (q.2.length + 1) cap))
                   with_reducible exact yloop_fin hml hnk hgk1 hnn F1 R1 ht1' HH1)
                | (have F1 := ((((((hX2.setx (Nat.le_refl _) h0 (.slice (some ⟨g, 0, none⟩) (q.2.length + 1) cap)).el (Nat.le_refl _) h0 (q.2.length * 5) (.int .i64 ka)).el (Nat.le_refl _) h0 (q.2.length * 5 + 1) (.int .i64 kb)).el (Nat.le_refl _) h0 (q.2.length * 5 + 2) (.string x)).el (Nat.le_refl _) h0 (q.2.length * 5 + 3) (.slice p1 n1 q1)).el (Nat.le_refl _) h0 (q.2.length * 5 + 4) (.slice p2 n2 q2)).done
                   have R1 := (se_set (se_set (se_set (se_set (se_set (se_set hr2 hxr 4 (.slice (some ⟨g, 0, none⟩) (q.2.length + 1) cap)) hgr (q.2.length * 5) (.int .i64 ka)) hgr (q.2.length * 5 + 1) (.int .i64 kb)) hgr (q.2.length * 5 + 2) (.string x)) hgr (q.2.length * 5 + 3) (.slice p1 n1 q1)) hgr (q.2.length * 5 + 4) (.slice p2 n2 q2))
                   with_reducible exact yloop_fin hml hnk hgk1 hnn F1 R1 ht1' HH1))
        · have tk2 : ((t2.kind : Int) != 6) = true := by simp; omega
          rw [Js.stA_end hnb hn0 hk] at hq
          have HQ := Lib.hid hq
          clear hk hq HH
          go_wp2_with fail
          go_quiet (fail)
          go_wp2_with fail
          go_meet
          case rel => exact ⟨q, vs, vn, vl, a2, 0, t2, hX.below (below_drewN (Below.refl _ wr) nq) h0 (Nat.le_refl _), se_below hr (below_drewN (Below.refl _ wr) nq), ht2, Lib.hid (.inl ⟨rfl, HQ.out⟩)⟩
  case rest =>
    clear hX3 HH hr3 ht1 hr
    obtain ⟨q, vs, vn, vl, a2, er2, t2, hX, hr, ht2, HH⟩ := hcut
    have y2 : wc.cell? ⟨w.heap.size + 2, 0, none⟩ = some (.int .i64 1) := (cell_of_row _ _ 0 _ _ (0, 0) (yg_fr hX g2 (by omega) (by omega) (by omega))).trans rfl
    obtain ⟨c0, c1, c2, c3, c4, c5', c6, c7, c8⟩ := se_cells hr
    have hXq := fun nq => hX.below (below_drewN (Below.refl _ wc) nq) h0 (Nat.le_refl _)
    have hrq : ∀ nq, SeC (wc.drewN nq) rb s a2 er2 t2 := fun nq => se_below hr (below_drewN (Below.refl _ wc) nq)
    have hh := HH.out
    clear HH
    by_cases he : er2 = 0
    · subst he
      have hq := hh.eq
      (try dsimp only at hq)
      rw [HCC.out] at hq
      unfold Js.rowC at hq
      (try dsimp only at hq)
      by_cases hk : t2.kind = 2
      · have tk2 : ((t2.kind : Int) != 2) = false := by simp [hk]
        rw [if_pos hk] at hq
        have HE : Hid (Js.Hit R (fun t => Js.bd (Js.nx s.data.toList t) (fun t3 => G (Js.J.mk 5 0 [] q.1 q.2, t3))) a2 0 t2) := Lib.hid (.inl ⟨rfl, hq⟩)
        clear hk hq hh
        go_wp2_with fail
        go_quiet (fail)
        have hXe := hXq nq
        have hre := hrq nq
        have hte := ht2
        clear hX hr y2 c0 c1 c2 c3 c4 c5' c6 c7 c8 hXq hrq
        go_wp2_with fail
        refine (sstep_cps s rb _ _ _ _ R (fun t3 => G (Js.J.mk 5 0 [] q.1 q.2, t3)) (by omega) hte hre hF HE.out).mono ?_
        rintro e w3 ⟨rfl, hg3, a', er', t', ht', hr3, hh⟩
        have HH := Lib.hid hh
        have hX3 := hXe.reader hg3 h0 (Nat.le_refl _)
        have e1 := yg_fr hX3 g0 (by omega) (by omega) (by omega)
        have e2 := yg_x hX3
        obtain ⟨np, nc, rfl⟩ : ∃ p c, vn = .slice p q.1.length c := row_form (yg_nm hX3)
        obtain ⟨lp, lc, rfl⟩ : ∃ p c, vl = .slice p q.2.length c := row_form (yg_own hX3)
        obtain ⟨y0, y1, y2, y3, y4⟩ := tok_cells e2
        obtain ⟨z0, z1, z2, z3, z4⟩ := tok_cells e1
        obtain ⟨v0, v1, v2, v3, v4⟩ := tok_frozen e1
        obtain ⟨wf, hwf, hwfb, hgf, hrf, k, hj⟩ := yode_end h0 (Nat.le_refl _) hX3 hr3 e1
        clear hh hg3
        go_wp2_with fail
        rw [← hwf]
        obtain ⟨u0, u1, u2, u3, u4⟩ := tok_cells hwfb
        clear hwf y0 y1 y2 y3 y4 z0 z1 z2 z3 z4 v0 v1 v2 v3 v4
        exact bodyPost_ret (v := .agg #[.int .i64 5, .int .i64 0, .string ⟨#[]⟩, .slice np q.1.length nc, .slice lp q.2.length lc]) (by simp [results, Try.results51, go_sem, u0, u1, u2, u3, u4]) rfl ⟨hgf, _, k, _, a', er', t', rfl, ht', hrf, hj, HH.out⟩
      · have tk2 : ((t2.kind : Int) != 2) = true := by simp; omega
        rw [if_neg hk] at hq
        have hfl := fun nq => sfail_cps s rb t2 a2 0 2 (wc.drewN nq) R (by decide) (hrq nq) (.inl ⟨rfl, hq⟩)
        clear hk hq hh
        go_wp2_with fail
        go_quiet (fail)
        go_wp2_with fail
        refine (hfl nq).mono ?_
        rintro e we ⟨rfl, hge, ae, ere, hene, hre, hhe⟩
        have hXe := (hXq nq).reader hge h0 (Nat.le_refl _)
        have hte := ht2
        have HE := Lib.hid (hhe (fun t => Js.bd (Js.nx s.data.toList t) (fun t3 => G (Js.J.mk 5 0 [] q.1 q.2, t3))))
        clear hX hr y2 c0 c1 c2 c3 c4 c5' c6 c7 c8 hXq hrq hfl hhe hge
        go_wp2_with fail
        refine (sstep_cps s rb _ _ _ _ R (fun t3 => G (Js.J.mk 5 0 [] q.1 q.2, t3)) (by omega) hte hre hF HE.out).mono ?_
        rintro e w3 ⟨rfl, hg3, a', er', t', ht', hr3, hh⟩
        have HH := Lib.hid hh
        have hX3 := hXe.reader hg3 h0 (Nat.le_refl _)
        have e1 := yg_fr hX3 g0 (by omega) (by omega) (by omega)
        have e2 := yg_x hX3
        obtain ⟨np, nc, rfl⟩ : ∃ p c, vn = .slice p q.1.length c := row_form (yg_nm hX3)
        obtain ⟨lp, lc, rfl⟩ : ∃ p c, vl = .slice p q.2.length c := row_form (yg_own hX3)
        obtain ⟨y0, y1, y2, y3, y4⟩ := tok_cells e2
        obtain ⟨z0, z1, z2, z3, z4⟩ := tok_cells e1
        obtain ⟨v0, v1, v2, v3, v4⟩ := tok_frozen e1
        obtain ⟨wf, hwf, hwfb, hgf, hrf, k, hj⟩ := yode_end h0 (Nat.le_refl _) hX3 hr3 e1
        clear hh hg3
        go_wp2_with fail
        rw [← hwf]
        obtain ⟨u0, u1, u2, u3, u4⟩ := tok_cells hwfb
        clear hwf y0 y1 y2 y3 y4 z0 z1 z2 z3 z4 v0 v1 v2 v3 v4
        exact bodyPost_ret (v := .agg #[.int .i64 5, .int .i64 0, .string ⟨#[]⟩, .slice np q.1.length nc, .slice lp q.2.length lc]) (by simp [results, Try.results51, go_sem, u0, u1, u2, u3, u4]) rfl ⟨hgf, _, k, _, a', er', t', rfl, ht', hrf, hj, HH.out⟩
    · have t1 : (er2 == 0) = false := by simp [he]
      have HE := Lib.hid (hh.any he (fun t => Js.bd (Js.nx s.data.toList t) (fun t3 => G (Js.J.mk 5 0 [] q.1 q.2, t3))) t2)
      clear he hh
      go_wp2_with fail
      go_quiet (fail)
      have hXe := hXq nq
      have hre := hrq nq
      have hte := ht2
      clear hX hr y2 c0 c1 c2 c3 c4 c5' c6 c7 c8 hXq hrq
      go_wp2_with fail
      refine (sstep_cps s rb _ _ _ _ R (fun t3 => G (Js.J.mk 5 0 [] q.1 q.2, t3)) (by omega) hte hre hF HE.out).mono ?_
      rintro e w3 ⟨rfl, hg3, a', er', t', ht', hr3, hh⟩
      have HH := Lib.hid hh
      have hX3 := hXe.reader hg3 h0 (Nat.le_refl _)
      have e1 := yg_fr hX3 g0 (by omega) (by omega) (by omega)
      have e2 := yg_x hX3
      obtain ⟨np, nc, rfl⟩ : ∃ p c, vn = .slice p q.1.length c := row_form (yg_nm hX3)
      obtain ⟨lp, lc, rfl⟩ : ∃ p c, vl = .slice p q.2.length c := row_form (yg_own hX3)
      obtain ⟨y0, y1, y2, y3, y4⟩ := tok_cells e2
      obtain ⟨z0, z1, z2, z3, z4⟩ := tok_cells e1
      obtain ⟨v0, v1, v2, v3, v4⟩ := tok_frozen e1
      obtain ⟨wf, hwf, hwfb, hgf, hrf, k, hj⟩ := yode_end h0 (Nat.le_refl _) hX3 hr3 e1
      clear hh hg3
      go_wp2_with fail
      rw [← hwf]
      obtain ⟨u0, u1, u2, u3, u4⟩ := tok_cells hwfb
      clear hwf y0 y1 y2 y3 y4 z0 z1 z2 z3 z4 v0 v1 v2 v3 v4
      exact bodyPost_ret (v := .agg #[.int .i64 5, .int .i64 0, .string ⟨#[]⟩, .slice np q.1.length nc, .slice lp q.2.length lc]) (by simp [results, Try.results51, go_sem, u0, u1, u2, u3, u4]) rfl ⟨hgf, _, k, _, a', er', t', rfl, ht', hrf, hj, HH.out⟩

end Go.Proofs.Ythbpkmmnoeikoaa
