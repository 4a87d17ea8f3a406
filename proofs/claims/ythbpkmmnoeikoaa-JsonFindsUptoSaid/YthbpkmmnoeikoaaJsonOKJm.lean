/-
  An object's next member (the reader's second closure), which is read. Condition: as XJsonRow's; the thing by its contract.
-/
import Derived.Test.YthbpkmmnoeikoaaJsonOFJm
namespace Go.Proofs.Ythbpkmmnoeikoaa
open Go Go.RowKit Go.Deep
set_option linter.unusedVariables false
set_option linter.unusedSimpArgs false

set_option maxRecDepth 100000 in
set_option maxHeartbeats 16000000 in
theorem joneO_ok (s : ByteArray) (rb : Nat) (d : Int) (th : Tk.Tok → Js.Re (Js.J × Tk.Tok)) (w0 : World) (h0 : rb < w0.heap.size) (hs : s.size ≤ 4294967280) (hTH : ThOk s d th) (m : Nat) (q : Js.St) (t : Tk.Tok) (W : World) (hm : m ≤ 100000) (ht : t.end' ≤ s.size) (hts : t.s.length ≤ maxLen)
    (hI : LO w0 rb m q W) (hr : RdC W rb s t d) (hF : Js.Fu (Js.oneO s.data.toList th q t)) (k : List (List UInt8) × Tk.Tok) (hk : Js.key s.data.toList q.1 t = .ok k) (y : Js.J × Tk.Tok) (hth : th k.2 = .ok y) :
    Calls Try.prog 84 #[.pointer (some ⟨w0.heap.size, 0, none⟩), .pointer (some ⟨w0.heap.size + 4, 0, none⟩), .pointer (some ⟨w0.heap.size + 2, 0, none⟩)] W (OnPost rb s d (LO w0 rb (m + 1)) (fun W' => w0.grownBy W' (some rb)) (Js.oneO s.data.toList th q t)) := by
  obtain ⟨⟨hlen, vs, vn, vl, hX⟩, hln, hO⟩ := hI
  obtain ⟨b0, m0⟩ := ob_cells hO
  obtain ⟨c0, c1, c2, c3, c4, c5, c6⟩ := rd_cells hr
  obtain ⟨i0, hi, hz0, hz1, hz2⟩ := info_parts infoJson
  obtain ⟨is, hsi, hsz0, hsz1, hsz2⟩ := info_parts infoStrJ
  have hgW : w0.grownBy W (some rb) := by obtain ⟨D, k, h⟩ := hX; exact h.gr
  have hbs : w0.heap.size + 5 ≤ W.heap.size := xg_size hX
  obtain ⟨h7, hin, t1, t2, hx1, h5, hx2, rfl⟩ := key_ok hk
  have ht1 := (Js.nx_wf hx1 (by rw [len_data]; exact ht)).1
  have ht2 := (Js.nx_wf hx2 ht1).1
  rw [len_data] at ht1 ht2
  have hFt : Js.Fu (th t2) := fun e => by unfold Js.oneO at hF; rw [hk] at hF; dsimp only at hF; rw [e] at hF; exact hF rfl
  unfold Js.oneO
  rw [hk]
  dsimp only
  have hrd : RdC W.drew rb s t d := hr
  have hgWd : w0.grownBy W.drew (some rb) := hgW.trans (gb_of ((Below.refl _ W).drew))
  have t7 : ((t.kind : Int) == 7) = true := by simp [h7]
  have hm7 := jmust_any s rb t d true 2 W.drew hrd
  dsimp only at hth
  rw [hth]
  obtain ⟨j, t'⟩ := y
  dsimp only
  have hOK : ∀ W', RdC W' rb s t2 d → Calls Try.prog 48 #[.pointer (some ⟨rb, 0, none⟩)] W' fun e w' => W'.grownBy w' (some rb) ∧ ∃ (a b : Int) (x : ByteArray) (p1 : Option Addr) (n1 q1 : Nat) (p2 : Option Addr) (n2 q2 k : Nat), e = .returned (.agg #[.int .i64 a, .int .i64 b, .string x, .slice p1 n1 q1, .slice p2 n2 q2]) ∧ RdC w' rb s t' d ∧
      JVn k (fun b => W'.heap.size ≤ b ∧ b < w'.heap.size) w' (.agg #[.int .i64 a, .int .i64 b, .string x, .slice p1 n1 q1, .slice p2 n2 q2]) j := by
    intro W' hr'
    have h1 := hTH rb t2 W' hr' ht2 hFt
    rw [hth] at h1
    refine h1.mono ?_
    rintro e w1 ⟨hg1, ⟨j', t'', hx, v, k, rfl, hr1, hj⟩ | ⟨pp, hx, _⟩⟩
    · cases hx
      obtain ⟨a, b, x, p1, n1, q1, p2, n2, q2, rfl⟩ := hj.form2
      exact ⟨hg1, a, b, x, p1, n1, q1, p2, n2, q2, k, rfl, hr1, hj⟩
    · cases hx
  clear hFt hTH
  have HOK := Lib.hid hOK
  clear hOK
  have hm7q : ∀ n, Calls Try.prog 49 #[.pointer (some ⟨rb, 0, none⟩), .bool true, .int .i64 2] (W.drewN n) fun e w' => e = .returned (.tuple #[]) ∧ w' = W.drewN n := fun n =>
    (jmust_any s rb t d true 2 (W.drewN n) hr).mono (fun e w' h => ⟨h.2, h.1.symm⟩)
  have hlkq : ∀ n, (Instr.lookup 122 (.map (some (w0.heap.size + 3))) (str t.s) false).run Try.prog (W.drewN n) = .ok (.bool false) (W.drewN n) := fun n => by
    have h := (show SetM (W.drewN n) (w0.heap.size + 3) q.1 from hO.set).asked t.s hts
    rw [decide_eq_false hin] at h
    exact h
  have HIN := Lib.hid hin
  clear hin hm7 h7
  go_enter Try.func84, Try.ntmps84
  go_wp2_with fail
  go_quiet ((go_at_call 49; exact Calls.quiet_of_same (hm7q _)))
  have hrq : RdC (W.drewN nq) rb s t d := hr
  have hOq : ObF w0 rb q.1 (W.drewN nq) := hO.same (fun _ _ _ _ => rfl)
  have hXq := hX.below (below_drewN (Below.refl _ W) nq) h0 (by omega)
  have hgq : w0.grownBy (W.drewN nq) (some rb) := hgW.trans (gb_of (below_drewN (Below.refl _ W) nq))
  have hlk := hlkq nq
  have hbq : w0.heap.size + 5 ≤ (W.drewN nq).heap.size := hbs
  clear hlkq hm7q hX hO hr hgW hrd hgWd b0 m0 c0 c1 c2 c3 c4 c5 c6 hbs
  generalize W.drewN nq = Wd at *
  obtain ⟨b0, m0⟩ := ob_cells hOq
  obtain ⟨c0, c1, c2, c3, c4, c5, c6⟩ := rd_cells hrq
  have hm6 := jmust_any s rb t d true 6 Wd hrq
  go_wp2_with fail
  refine hm6.mono ?_
  rintro e w1 ⟨rfl, rfl⟩
  clear hm6
  go_wp2_with (at_mapUpdate; refine wpList_told _ rfl _ _ _ rfl _ q.1 rfl hOq.set (by unfold maxLen; omega) t.s hts rfl rfl ?_; intro w2 hs2 hg2; have hO2 := ob_told hOq hs2 hg2 hbq; obtain ⟨b0b, m0b⟩ := ob_cells hO2)
  have hr2 := rd_app hrq hg2 (by simp; omega)
  have hX2 := hXq.low hg2 (by omega) (by omega) h0
  have hb2 : w0.heap.size + 5 ≤ w2.heap.size := xg_size hX2
  have hgr2 : w0.grownBy w2 (some rb) := by obtain ⟨D, k, h⟩ := hX2; exact h.gr
  clear hlk b0 m0 c0 c1 c2 c3 c4 c5 c6 hXq hOq hrq hgq hbq hs2 hg2
  have hn := jnext_post s rb t d w2 hs ht hr2
  rw [hx1] at hn
  clear hx1 hF hk
  subst hlen
  have HLN := Lib.hid hln
  have hnm1 : q.1.length + 1 ≤ maxLen := by unfold maxLen; omega
  have hnm2 : (q.1.length + 1) * 16 ≤ 140737488355328 := by omega
  clear hln
  obtain ⟨p, cc, rfl⟩ : ∃ p c, vl = .slice p q.2.length c := by obtain ⟨D, k, h⟩ := hX2; exact row_form h.own
  obtain ⟨np, nc, rfl⟩ : ∃ p c, vn = .slice p q.1.length c := by obtain ⟨D, k, h⟩ := hX2; exact row_form h.nm
  go_wp2_with fail
  refine hn.mono ?_
  rintro e w3 ⟨hg3, ⟨t1', hx, rfl, hr3⟩ | ⟨pp, hx, _⟩⟩
  case inr => cases hx
  cases hx
  have hX3 := hX2.reader hg3 h0 (by omega)
  have hO3 := xg_ob hX3 h0 hO2
  clear hn b0b m0b hr2
  obtain ⟨b0, m0⟩ := ob_cells hO3
  have hne := jneed_any s rb t1 d 5 w3 hs ht1 hr3
  rw [hx2] at hne
  go_wp2_with fail
  refine hne.mono ?_
  rintro e w4 (⟨_, hg4, ⟨t2', hx, rfl, hr4⟩ | ⟨pp, hx, _⟩⟩ | ⟨h5', _, _⟩)
  case inl.inr => cases hx
  case inr => exact absurd h5 h5'
  cases hx
  have hX4 := hX3.reader hg4 h0 (by omega)
  clear hne b0 m0 hx2
  have x3 := xg_x3 hX4
  have hr4n := hr4.below (nbel w4 t.s)
  have hX4n := hX4.below (nbel w4 t.s) h0 (by omega)
  have x3n := xg_x3 hX4n
  go_wp2_with (at_builtin; go_loud (refine wpList_append_lies _ rfl _ _ 38 rfl (w0.heap.size + 5) 9 is _ 1 16 Try.underlying38 hsi hsz0 hsz1 hsz2 rfl (by decide) _ _ _ rfl (xg_nm hX4n) ⟨w4.heap.size, 0, none⟩ 1 1 [str t.s] rfl rfl (World.news_of_block (heap_alloc_new w4 _)) (by simp [Value.oneCell']) (by omega) hnm1 hnm2 (xg_size hX4n) _ rfl ?_; intro gn capn w5 hownn hgrown horn hgltn; obtain ⟨xc3, xf3⟩ := xg_x3n hX4n (by omega) hgrown))
  have hX5 := hX4n.names h0 (by omega) hownn hgrown horn
  have hr5 := rd_set (rd_app hr4n hgrown (fun e => by have := ((xg_nm hX4n).lt rb e.symm).1; omega)) (show w0.heap.size + 2 ≠ rb by omega) 3 (.slice (some ⟨gn, 0, none⟩) (q.1.length + 1) capn)
  clear x3 x3n xc3 xf3 hX4n hX4 hr4n hr4 hX3 hO3 hX2 hownn hgrown horn
  generalize w5.setCell ⟨w0.heap.size + 2, 3, none⟩ (.slice (some ⟨gn, 0, none⟩) (q.1.length + 1) capn) = w6 at *
  have hO6 := xg_ob hX5 h0 hO2
  obtain ⟨b0, m0⟩ := ob_cells hO6
  have x4 := xg_x4 hX5
  have hgW := xg_gr hX5
  have hbz : Below w6.heap.size w6 (w6.alloc (.cells zJ 41)).drew := ((Below.refl _ w6).alloc (Nat.le_refl _) _).drew
  have h3 : w0.heap.size + 3 ≤ w0.heap.size + 5 := by omega
  have hXd := hX5.below ((Below.refl _ w6).drew) h0 h3
  have hXz := hX5.below hbz h0 h3
  have hrd : RdC w6.drew rb s t2 d := hr5
  have hrz : RdC (w6.alloc (.cells zJ 41)).drew rb s t2 d := hr5.below hbz
  have hrlt : rb < w6.heap.size := (Array.getElem?_eq_some_iff.1 hr5).1
  have b0z := cell_below hbz b0
  have x4z := cell_below hbz x4
  have hrx : rb ≠ w0.heap.size + 2 := by omega
  have i1 : (0 : Int) ≤ (q.2.length : Int) := by omega
  have i2 : (q.2.length : Int) < (q.2.length : Int) + 1 := by omega
  have i3 : (q.2.length : Int) < ((q.2.length + 1 : Nat) : Int) := by omega
  have hone : ∀ u ∈ [Value.int .i64 0, .int .i64 0, .string ⟨#[]⟩, .slice none 0 0, .slice none 0 0], u.oneCell' = true := by simp [Value.oneCell']
  have hmx1 : q.2.length + 1 ≤ maxLen := by unfold maxLen; omega
  have hmx2 : (q.2.length + 1) * 80 ≤ 140737488355328 := by omega
  unfold zJ at hrz hbz hXz b0z x4z
  go_region_law (first
    | (refine step_append_lies _ rfl _ _ 39 rfl (w0.heap.size + 5) 41 i0 _ 5 80 Try.underlying39 hi hz0 hz1 hz2 rfl (by decide) _ _ _ rfl (xg_own hX1) ⟨w6.heap.size, 0, none⟩ 1 1 [.int .i64 0, .int .i64 0, .string ⟨#[]⟩, .slice none 0 0, .slice none 0 0] rfl rfl (World.news_of_block hzb) hone (by omega) hmx1 hmx2 (xg_size hX1) _ rfl ?_; intro g cap w2 hown hgrow hor hglt; have hX2 := hX1.app h0 h3 hown hgrow hor; have hr2 := rd_app hr1 hgrow (xg_far hX1 h0 h3); have hst := xg_stores hX2 h3; obtain ⟨a0, a1, a2, a3, a4, e0, e1, e2, e3, e4, hgx, xx4, xf4⟩ := hst)
    | (refine step_append_lies _ rfl _ _ 39 rfl (w0.heap.size + 5) 41 i0 _ 5 80 Try.underlying39 hi hz0 hz1 hz2 rfl (by decide) _ _ _ rfl (xg_own (hX1.below (zbel w1) h0 h3)) ⟨w1.heap.size, 0, none⟩ 1 1 [.int .i64 0, .int .i64 0, .string ⟨#[]⟩, .slice none 0 0, .slice none 0 0] rfl rfl (World.news_of_block (heap_alloc_new w1 _)) hone (by omega) hmx1 hmx2 (xg_size (hX1.below (zbel w1) h0 h3)) _ rfl ?_; intro g cap w2 hown hgrow hor hglt; have hX2 := (hX1.below (zbel w1) h0 h3).app h0 h3 hown hgrow hor; have hr2 := rd_app (hr1.below (zbel w1)) hgrow (xg_far (hX1.below (zbel w1) h0 h3) h0 h3); have hst := xg_stores hX2 h3; obtain ⟨a0, a1, a2, a3, a4, e0, e1, e2, e3, e4, hgx, xx4, xf4⟩ := hst)
    | (go_simp; go_at_call 48; first
        | ((with_reducible refine (HOK.out _ hrd).mono ?_); rintro e w1 ⟨hg1, a, b, x, p1, n1, q1, p2, n2, q2, k, rfl, hr1, hj⟩; have hX1 := hXd.call hg1 h0 h3 (fun b h => h) hj; have xa := xg_x4 hX1; have xb := xg_x4 (hX1.below (zbel w1) h0 h3))
        | ((with_reducible refine (HOK.out _ hrz).mono ?_); rintro e w1 ⟨hg1, a, b, x, p1, n1, q1, p2, n2, q2, k, rfl, hr1, hj⟩; have hX1 := hXz.call hg1 h0 h3 (fun b h => h) hj; have xa := xg_x4 hX1; have hzb := nx_blk2 hg1 (by omega))))
  all_goals (
    go_end0
    have hgr : g ≠ rb := by have := ((xg_own hX2).lt g rfl).1; omega
    have hxr : w0.heap.size + 2 ≠ rb := by omega
    first
      | (have F1 := ((((((hX2.el h3 h0 (q.2.length * 5) (.int .i64 a)).el h3 h0 (q.2.length * 5 + 1) (.int .i64 b)).el h3 h0 (q.2.length * 5 + 2) (.string x)).el h3 h0 (q.2.length * 5 + 3) (.slice p1 n1 q1)).el h3 h0 (q.2.length * 5 + 4) (.slice p2 n2 q2)).setx h3 h0 (.slice (some ⟨g, 0, none⟩) (q.2.length + 1) cap)).done
         have R1 := (rd_set (rd_set (rd_set (rd_set (rd_set (rd_set hr2 hgr (q.2.length * 5) (.int .i64 a)) hgr (q.2.length * 5 + 1) (.int .i64 b)) hgr (q.2.length * 5 + 2) (.string x)) hgr (q.2.length * 5 + 3) (.slice p1 n1 q1)) hgr (q.2.length * 5 + 4) (.slice p2 n2 q2)) hxr 4 (.slice (some ⟨g, 0, none⟩) (q.2.length + 1) cap))
         with_reducible exact oneO_fin h0 rfl (by rw [List.length_append, List.length_singleton, HLN.out]) hO2 R1 F1)
      | (have F1 := ((((((hX2.setx h3 h0 (.slice (some ⟨g, 0, none⟩) (q.2.length + 1) cap)).el h3 h0 (q.2.length * 5) (.int .i64 a)).el h3 h0 (q.2.length * 5 + 1) (.int .i64 b)).el h3 h0 (q.2.length * 5 + 2) (.string x)).el h3 h0 (q.2.length * 5 + 3) (.slice p1 n1 q1)).el h3 h0 (q.2.length * 5 + 4) (.slice p2 n2 q2)).done
         have R1 := (rd_set (rd_set (rd_set (rd_set (rd_set (rd_set hr2 hxr 4 (.slice (some ⟨g, 0, none⟩) (q.2.length + 1) cap)) hgr (q.2.length * 5) (.int .i64 a)) hgr (q.2.length * 5 + 1) (.int .i64 b)) hgr (q.2.length * 5 + 2) (.string x)) hgr (q.2.length * 5 + 3) (.slice p1 n1 q1)) hgr (q.2.length * 5 + 4) (.slice p2 n2 q2))
         with_reducible exact oneO_fin h0 rfl (by rw [List.length_append, List.length_singleton, HLN.out]) hO2 R1 F1))

end Go.Proofs.Ythbpkmmnoeikoaa
