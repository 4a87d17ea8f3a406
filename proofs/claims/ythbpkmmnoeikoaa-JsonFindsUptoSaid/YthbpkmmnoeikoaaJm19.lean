/-
  Several texts in one, each with its own head below. Conditions: as each says.
-/
import Derived.Test.YthbpkmmnoeikoaaJsonLEJm
import Derived.Test.YthbpkmmnoeikoaaJsonLOJm
import Derived.Test.YthbpkmmnoeikoaaJm16
import Derived.Defers
import Derived.Recover
/-
  A list's next thing (the reader's first closure). Condition: as XJsonRow's; the thing by its contract.
-/
namespace Go.Proofs.Ythbpkmmnoeikoaa
open Go Go.RowKit
set_option linter.unusedVariables false

theorem joneL_any (s : ByteArray) (rb : Nat) (d : Int) (th : Tk.Tok → Js.Re (Js.J × Tk.Tok)) (w0 wi : World) (h0 : rb < w0.heap.size) (kd : Int) (bs : Nat) (h3 : w0.heap.size + 3 ≤ bs) (hTH : ThOk s d th)
    (hbox : wi.heap[w0.heap.size]? = some (.cells #[.pointer (some ⟨rb, 0, none⟩)] 79 (0, 0))) (m : Nat) (q : Js.St) (t : Tk.Tok) (W : World) (hm : m ≤ 100000) (ht : t.end' ≤ s.size)
    (hI : LI w0 wi rb kd bs m q W) (hr : RdC W rb s t d) (hF : Js.Fu (Js.oneL th q t)) :
    Calls Try.prog 83 #[.pointer (some ⟨w0.heap.size + 2, 0, none⟩), .pointer (some ⟨w0.heap.size, 0, none⟩)] W (OnPost rb s d (LI w0 wi rb kd bs (m + 1)) (fun W' => w0.grownBy W' (some rb)) (Js.oneL th q t)) := by
  cases hth : th t with
  | error o => exact joneL_err s rb d th w0 wi h0 kd bs h3 hTH hbox m q t W hm ht hI hr hF o hth
  | ok y => exact joneL_ok s rb d th w0 wi h0 kd bs h3 hTH hbox m q t W hm ht hI hr hF y hth

end Go.Proofs.Ythbpkmmnoeikoaa

/-
  The reader's thing, of a token that is a thing by itself (a text, a number, a word), or none. Condition: the reader lies as RdC says; a text shorter than 2^32 - 15 bytes.
-/
namespace Go.Proofs.Ythbpkmmnoeikoaa
open Go Go.RowKit
set_option linter.unusedVariables false
set_option linter.unusedSimpArgs false

/-- behind the last token: the thing lies in block B + 1 -/
theorem leaf_end {w w3 : World} {rb : Nat} {s : ByteArray} {t' : Tk.Tok} {d : Int} {kd n : Int} {x : List UInt8} {sx : ByteArray} {z0 z1 z2 z3 z4 : Value} (hsx : sx = bs x) (h0 : rb < w.heap.size) (hg : w.grownBy w3 (some rb)) (hr : RdC w3 rb s t' d)
    (hres : w3.heap[w.heap.size + 1]? = some (.cells #[z0, z1, z2, z3, z4] 41 (0, 0))) :
    ∃ wf, wf = ((((w3.setCell ⟨w.heap.size + 1, 0, none⟩ (.int .i64 kd)).setCell ⟨w.heap.size + 1, 1, none⟩ (.int .i64 n)).setCell ⟨w.heap.size + 1, 2, none⟩ (.string sx)).setCell ⟨w.heap.size + 1, 3, none⟩ (.slice none 0 0)).setCell ⟨w.heap.size + 1, 4, none⟩ (.slice none 0 0) ∧
      wf.heap[w.heap.size + 1]? = some (.cells #[.int .i64 kd, .int .i64 n, .string sx, .slice none 0 0, .slice none 0 0] 41 (0, 0)) ∧ w.grownBy wf (some rb) ∧ RdC wf rb s t' d ∧
      JVn 1 (fun b => w.heap.size ≤ b ∧ b < wf.heap.size) wf (.agg #[.int .i64 kd, .int .i64 n, .string sx, .slice none 0 0, .slice none 0 0]) (.mk kd n x [] []) := by
  have hb := tok_below5 w3 (w.heap.size + 1) (.int .i64 kd) (.int .i64 n) (.string sx) (.slice none 0 0) (.slice none 0 0)
  refine ⟨_, rfl, row_set (row_set (row_set (row_set (row_set hres 0 _) 1 _) 2 _) 3 _) 4 _, ?_, (hb.block rb (by omega)).trans hr, _, _, by rw [hsx]; rfl, ⟨none, 0, rfl, fun i hi => by simp at hi⟩, ⟨none, 0, rfl, fun i hi => by simp at hi⟩⟩
  exact ⟨hb.os.trans hg.os, hb.tape.trans hg.tape, hb.output.trans hg.output, Nat.le_trans hg.size hb.size, fun k hk hne => (hb.block k (by omega)).trans (hg.block k hk hne)⟩

/-- the blocks that a thing begins with -/
theorem three_blk {w : World} {o0 o1 o2 : Obj} : (((w.alloc o0).alloc o1).alloc o2).heap[w.heap.size]? = some o0 ∧ (((w.alloc o0).alloc o1).alloc o2).heap[w.heap.size + 1]? = some o1 ∧ (((w.alloc o0).alloc o1).alloc o2).heap[w.heap.size + 2]? = some o2 ∧ Below w.heap.size w (((w.alloc o0).alloc o1).alloc o2) := by
  have e1 : (w.alloc o0).heap.size = w.heap.size + 1 := by simp
  have e2 : ((w.alloc o0).alloc o1).heap.size = w.heap.size + 2 := by simp
  refine ⟨?_, ?_, ?_, ?_⟩
  · exact (Below.heap_alloc _ _ _ (by omega)).trans ((Below.heap_alloc _ _ _ (by omega)).trans (heap_alloc_new w o0))
  · have := heap_alloc_new (w.alloc o0) o1
    rw [e1] at this
    exact (Below.heap_alloc _ _ _ (by omega)).trans this
  · have := heap_alloc_new ((w.alloc o0).alloc o1) o2
    rwa [e2] at this
  · exact (((Below.refl _ w).alloc (Nat.le_refl _) _).alloc (by omega) _).alloc (by omega) _

set_option maxRecDepth 100000 in
set_option maxHeartbeats 8000000 in
theorem jthing_leaf (s : ByteArray) (n : Nat) (d : Int) (hs : s.size ≤ 4294967280) (rb : Nat) (t : Tk.Tok) (w : World) (hr : RdC w rb s t d) (ht : t.end' ≤ s.size) (h1 : t.kind ≠ 1) (h3 : t.kind ≠ 3) :
    Calls Try.prog 48 #[.pointer (some ⟨rb, 0, none⟩)] w (ThPost rb s d w (Js.thing (n + 1) s.data.toList d t)) := by
  have h0 : rb < w.heap.size := (Array.getElem?_eq_some_iff.1 hr).1
  obtain ⟨R, hR⟩ : ∃ R, R = Js.thing (n + 1) s.data.toList d t := ⟨_, rfl⟩
  rw [← hR]
  rw [Js.thing] at hR
  dsimp only at hR
  rw [if_neg h1, if_neg h3] at hR
  have t1 : ((t.kind : Int) == 1) = false := by simp; omega
  have t3 : ((t.kind : Int) == 3) = false := by simp; omega
  by_cases h7 : t.kind = 7
  · rw [if_pos h7] at hR
    have t7 : ((t.kind : Int) == 7) = true := by simp [h7]
    clear h7
    have HR := Lib.hid hR
    clear hR h1 h3
    obtain ⟨a00, a01, a02, a03, a04, a05, a06⟩ := rd_cells (hr.below (three_blk (w := w) (o0 := .cells #[.pointer (some ⟨rb, 0, none⟩)] 79) (o1 := .cells #[.int .i64 0, .int .i64 0, .string ⟨#[]⟩, .slice none 0 0, .slice none 0 0] 41) (o2 := .cells #[.int .i64 0, .int .i64 0, .string ⟨#[]⟩, .slice none 0 0, .slice none 0 0] 41)).2.2.2)
    obtain ⟨a10, a11, a12, a13, a14, a15, a16⟩ := rd_cells (hr.below (three_blk (w := w) (o0 := .cells #[.pointer (some ⟨rb, 0, none⟩)] 79) (o1 := .cells #[.int .i64 0, .int .i64 0, .string ⟨#[]⟩, .slice none 0 0, .slice none 0 0] 41) (o2 := .cells #[.int .i64 4, .int .i64 0, .string ⟨#[]⟩, .slice none 0 0, .slice none 0 0] 41)).2.2.2)
    obtain ⟨hx0, hx1, hx2, hxb⟩ := (three_blk (w := w) (o0 := .cells #[.pointer (some ⟨rb, 0, none⟩)] 79) (o1 := .cells #[.int .i64 0, .int .i64 0, .string ⟨#[]⟩, .slice none 0 0, .slice none 0 0] 41) (o2 := .cells #[.int .i64 4, .int .i64 0, .string (bs t.s), .slice none 0 0, .slice none 0 0] 41))
    have hrW : RdC (((w.alloc (.cells #[.pointer (some ⟨rb, 0, none⟩)] 79)).alloc (.cells #[.int .i64 0, .int .i64 0, .string ⟨#[]⟩, .slice none 0 0, .slice none 0 0] 41)).alloc (.cells #[.int .i64 4, .int .i64 0, .string (bs t.s), .slice none 0 0, .slice none 0 0] 41)) rb s t d := hr.below hxb
    go_enter Try.func48, Try.ntmps48
    go_wp2_with fail
    go_region
    go_wp2_with fail
    simp only [Nat.add_assoc, Nat.reduceAdd]
    clear a00 a01 a02 a03 a04 a05 a06 a10 a11 a12 a13 a14 a15 a16
    generalize ((w.alloc (.cells #[.pointer (some ⟨rb, 0, none⟩)] 79)).alloc (.cells #[.int .i64 0, .int .i64 0, .string ⟨#[]⟩, .slice none 0 0, .slice none 0 0] 41)).alloc (.cells #[.int .i64 4, .int .i64 0, .string (bs t.s), .slice none 0 0, .slice none 0 0] 41) = W at *
    have hgw : w.grownBy W.drew (some rb) := gb_of hxb.drew
    have hrl := (Array.getElem?_eq_some_iff.1 hrW).1
    have hn := jnext_post s rb t d W.drew hs ht hrW
    have hWs : w.heap.size + 2 < W.drew.heap.size := (Array.getElem?_eq_some_iff.1 hx2).1
    refine hn.mono ?_
    rintro e w3 ⟨hg3, ⟨t', hx, rfl, hr3⟩ | ⟨p, hx, rfl⟩⟩
    · have hq := HR.out
      unfold Js.fin at hq
      rw [hx] at hq
      have HQ := Lib.hid hq
      have e2 : w3.heap[w.heap.size + 2]? = _ := (hg3.block _ hWs (fun e => by cases e; omega)).trans hx2
      have e1 : w3.heap[w.heap.size + 1]? = _ := (hg3.block _ (by omega) (fun e => by cases e; omega)).trans hx1
      obtain ⟨y0, y1, y2, y3, y4⟩ := tok_cells e2
      obtain ⟨z0, z1, z2, z3, z4⟩ := tok_cells e1
      obtain ⟨v0, v1, v2, v3, v4⟩ := tok_frozen e1
      obtain ⟨wf, hwf, hwfb, hgf, hrf, hj⟩ := leaf_end (kd := 4) (n := 0) (x := t.s) (sx := bs t.s) rfl h0 (hgw.trans hg3) hr3 e1
      clear hq HR hn hx
      go_wp2_with fail
      rw [← hwf]
      obtain ⟨u0, u1, u2, u3, u4⟩ := tok_cells hwfb
      clear hwf y0 y1 y2 y3 y4 z0 z1 z2 z3 z4 v0 v1 v2 v3 v4
      exact bodyPost_ret (v := .agg #[.int .i64 4, .int .i64 0, .string (bs t.s), .slice none 0 0, .slice none 0 0]) (by simp [results, Try.results48, go_sem, u0, u1, u2, u3, u4]) rfl ⟨hgf, .inl ⟨_, t', HQ.out, _, 1, rfl, hrf, hj⟩⟩
    · have hq := HR.out
      unfold Js.fin at hq
      rw [hx] at hq
      exact ⟨rfl, hgw.trans hg3, .inr ⟨_, hq, rfl⟩⟩
  rw [if_neg h7] at hR
  have t7 : ((t.kind : Int) == 7) = false := by simp; omega
  by_cases h8 : t.kind = 8
  · rw [if_pos h8] at hR
    have t8 : ((t.kind : Int) == 8) = true := by simp [h8]
    clear h7 h8
    have HR := Lib.hid hR
    clear hR h1 h3
    obtain ⟨a00, a01, a02, a03, a04, a05, a06⟩ := rd_cells (hr.below (three_blk (w := w) (o0 := .cells #[.pointer (some ⟨rb, 0, none⟩)] 79) (o1 := .cells #[.int .i64 0, .int .i64 0, .string ⟨#[]⟩, .slice none 0 0, .slice none 0 0] 41) (o2 := .cells #[.int .i64 0, .int .i64 0, .string ⟨#[]⟩, .slice none 0 0, .slice none 0 0] 41)).2.2.2)
    obtain ⟨a10, a11, a12, a13, a14, a15, a16⟩ := rd_cells (hr.below (three_blk (w := w) (o0 := .cells #[.pointer (some ⟨rb, 0, none⟩)] 79) (o1 := .cells #[.int .i64 0, .int .i64 0, .string ⟨#[]⟩, .slice none 0 0, .slice none 0 0] 41) (o2 := .cells #[.int .i64 2, .int .i64 0, .string ⟨#[]⟩, .slice none 0 0, .slice none 0 0] 41)).2.2.2)
    obtain ⟨hx0, hx1, hx2, hxb⟩ := (three_blk (w := w) (o0 := .cells #[.pointer (some ⟨rb, 0, none⟩)] 79) (o1 := .cells #[.int .i64 0, .int .i64 0, .string ⟨#[]⟩, .slice none 0 0, .slice none 0 0] 41) (o2 := .cells #[.int .i64 2, .int .i64 t.n, .string ⟨#[]⟩, .slice none 0 0, .slice none 0 0] 41))
    have hrW : RdC (((w.alloc (.cells #[.pointer (some ⟨rb, 0, none⟩)] 79)).alloc (.cells #[.int .i64 0, .int .i64 0, .string ⟨#[]⟩, .slice none 0 0, .slice none 0 0] 41)).alloc (.cells #[.int .i64 2, .int .i64 t.n, .string ⟨#[]⟩, .slice none 0 0, .slice none 0 0] 41)) rb s t d := hr.below hxb
    go_enter Try.func48, Try.ntmps48
    go_wp2_with fail
    go_region
    go_wp2_with fail
    simp only [Nat.add_assoc, Nat.reduceAdd]
    clear a00 a01 a02 a03 a04 a05 a06 a10 a11 a12 a13 a14 a15 a16
    generalize ((w.alloc (.cells #[.pointer (some ⟨rb, 0, none⟩)] 79)).alloc (.cells #[.int .i64 0, .int .i64 0, .string ⟨#[]⟩, .slice none 0 0, .slice none 0 0] 41)).alloc (.cells #[.int .i64 2, .int .i64 t.n, .string ⟨#[]⟩, .slice none 0 0, .slice none 0 0] 41) = W at *
    have hgw : w.grownBy W.drew (some rb) := gb_of hxb.drew
    have hrl := (Array.getElem?_eq_some_iff.1 hrW).1
    have hn := jnext_post s rb t d W.drew hs ht hrW
    have hWs : w.heap.size + 2 < W.drew.heap.size := (Array.getElem?_eq_some_iff.1 hx2).1
    refine hn.mono ?_
    rintro e w3 ⟨hg3, ⟨t', hx, rfl, hr3⟩ | ⟨p, hx, rfl⟩⟩
    · have hq := HR.out
      unfold Js.fin at hq
      rw [hx] at hq
      have HQ := Lib.hid hq
      have e2 : w3.heap[w.heap.size + 2]? = _ := (hg3.block _ hWs (fun e => by cases e; omega)).trans hx2
      have e1 : w3.heap[w.heap.size + 1]? = _ := (hg3.block _ (by omega) (fun e => by cases e; omega)).trans hx1
      obtain ⟨y0, y1, y2, y3, y4⟩ := tok_cells e2
      obtain ⟨z0, z1, z2, z3, z4⟩ := tok_cells e1
      obtain ⟨v0, v1, v2, v3, v4⟩ := tok_frozen e1
      obtain ⟨wf, hwf, hwfb, hgf, hrf, hj⟩ := leaf_end (kd := 2) (n := t.n) (x := []) (sx := ⟨#[]⟩) rfl h0 (hgw.trans hg3) hr3 e1
      clear hq HR hn hx
      go_wp2_with fail
      rw [← hwf]
      obtain ⟨u0, u1, u2, u3, u4⟩ := tok_cells hwfb
      clear hwf y0 y1 y2 y3 y4 z0 z1 z2 z3 z4 v0 v1 v2 v3 v4
      exact bodyPost_ret (v := .agg #[.int .i64 2, .int .i64 t.n, .string ⟨#[]⟩, .slice none 0 0, .slice none 0 0]) (by simp [results, Try.results48, go_sem, u0, u1, u2, u3, u4]) rfl ⟨hgf, .inl ⟨_, t', HQ.out, _, 1, rfl, hrf, hj⟩⟩
    · have hq := HR.out
      unfold Js.fin at hq
      rw [hx] at hq
      exact ⟨rfl, hgw.trans hg3, .inr ⟨_, hq, rfl⟩⟩
  rw [if_neg h8] at hR
  have t8 : ((t.kind : Int) == 8) = false := by simp; omega
  by_cases h9 : t.kind = 9
  · rw [if_pos h9] at hR
    have t9 : ((t.kind : Int) == 9) = true := by simp [h9]
    clear h7 h8 h9
    have key : ∀ l : List UInt8, ((bs t.s).toList == l) = decide (t.s = l) := fun l => by
      rw [ByteArray.toList_eq]
      show (t.s == l) = _
      by_cases h : t.s = l
      · rw [decide_eq_true h, h]; simp
      · rw [decide_eq_false h]; exact beq_eq_false_iff_ne.2 h
    have k1 := key Js.wNull
    have k2 := key Js.wTrue
    clear key
    by_cases hnu : t.s = Js.wNull
    · have htr : ¬ t.s = Js.wTrue := by rw [hnu]; decide
      rw [if_pos hnu, if_neg htr] at hR
      rw [decide_eq_true hnu] at k1
      rw [decide_eq_false htr] at k2
      have n1 : ((bs t.s).toList == [110, 117, 108, 108]) = true := k1
      have n3 : ((bs t.s).toList != [110, 117, 108, 108]) = false := by show (!((bs t.s).toList == Js.wNull)) = false; rw [k1]; rfl
      have n2 : ((bs t.s).toList == [116, 114, 117, 101]) = false := k2
      clear hnu htr k1 k2
      have HR := Lib.hid hR
      clear hR h1 h3
      obtain ⟨a00, a01, a02, a03, a04, a05, a06⟩ := rd_cells (hr.below (three_blk (w := w) (o0 := .cells #[.pointer (some ⟨rb, 0, none⟩)] 79) (o1 := .cells #[.int .i64 0, .int .i64 0, .string ⟨#[]⟩, .slice none 0 0, .slice none 0 0] 41) (o2 := .cells #[.int .i64 0, .int .i64 0, .string ⟨#[]⟩, .slice none 0 0, .slice none 0 0] 41)).2.2.2)
      obtain ⟨hx0, hx1, hx2, hxb⟩ := (three_blk (w := w) (o0 := .cells #[.pointer (some ⟨rb, 0, none⟩)] 79) (o1 := .cells #[.int .i64 0, .int .i64 0, .string ⟨#[]⟩, .slice none 0 0, .slice none 0 0] 41) (o2 := .cells #[.int .i64 0, .int .i64 0, .string ⟨#[]⟩, .slice none 0 0, .slice none 0 0] 41))
      have hrW : RdC (((w.alloc (.cells #[.pointer (some ⟨rb, 0, none⟩)] 79)).alloc (.cells #[.int .i64 0, .int .i64 0, .string ⟨#[]⟩, .slice none 0 0, .slice none 0 0] 41)).alloc (.cells #[.int .i64 0, .int .i64 0, .string ⟨#[]⟩, .slice none 0 0, .slice none 0 0] 41)) rb s t d := hr.below hxb
      go_enter Try.func48, Try.ntmps48
      go_wp2_with fail
      simp only [Nat.add_assoc, Nat.reduceAdd]
      clear a00 a01 a02 a03 a04 a05 a06
      generalize ((w.alloc (.cells #[.pointer (some ⟨rb, 0, none⟩)] 79)).alloc (.cells #[.int .i64 0, .int .i64 0, .string ⟨#[]⟩, .slice none 0 0, .slice none 0 0] 41)).alloc (.cells #[.int .i64 0, .int .i64 0, .string ⟨#[]⟩, .slice none 0 0, .slice none 0 0] 41) = W at *
      have hgw : w.grownBy W (some rb) := gb_of hxb
      have hrl := (Array.getElem?_eq_some_iff.1 hrW).1
      have hn := jnext_post s rb t d W hs ht hrW
      have hWs : w.heap.size + 2 < W.heap.size := (Array.getElem?_eq_some_iff.1 hx2).1
      refine hn.mono ?_
      rintro e w3 ⟨hg3, ⟨t', hx, rfl, hr3⟩ | ⟨p, hx, rfl⟩⟩
      · have hq := HR.out
        unfold Js.fin at hq
        rw [hx] at hq
        have HQ := Lib.hid hq
        have e2 : w3.heap[w.heap.size + 2]? = _ := (hg3.block _ hWs (fun e => by cases e; omega)).trans hx2
        have e1 : w3.heap[w.heap.size + 1]? = _ := (hg3.block _ (by omega) (fun e => by cases e; omega)).trans hx1
        obtain ⟨y0, y1, y2, y3, y4⟩ := tok_cells e2
        obtain ⟨z0, z1, z2, z3, z4⟩ := tok_cells e1
        obtain ⟨v0, v1, v2, v3, v4⟩ := tok_frozen e1
        obtain ⟨wf, hwf, hwfb, hgf, hrf, hj⟩ := leaf_end (kd := 0) (n := 0) (x := []) (sx := ⟨#[]⟩) rfl h0 (hgw.trans hg3) hr3 e1
        clear hq HR hn hx
        go_wp2_with fail
        rw [← hwf]
        obtain ⟨u0, u1, u2, u3, u4⟩ := tok_cells hwfb
        clear hwf y0 y1 y2 y3 y4 z0 z1 z2 z3 z4 v0 v1 v2 v3 v4
        exact bodyPost_ret (v := .agg #[.int .i64 0, .int .i64 0, .string ⟨#[]⟩, .slice none 0 0, .slice none 0 0]) (by simp [results, Try.results48, go_sem, u0, u1, u2, u3, u4]) rfl ⟨hgf, .inl ⟨_, t', HQ.out, _, 1, rfl, hrf, hj⟩⟩
      · have hq := HR.out
        unfold Js.fin at hq
        rw [hx] at hq
        exact ⟨rfl, hgw.trans hg3, .inr ⟨_, hq, rfl⟩⟩
    · rw [if_neg hnu] at hR
      rw [decide_eq_false hnu] at k1
      have n1 : ((bs t.s).toList == [110, 117, 108, 108]) = false := k1
      have n3 : ((bs t.s).toList != [110, 117, 108, 108]) = true := by show (!((bs t.s).toList == Js.wNull)) = true; rw [k1]; rfl
      by_cases htr : t.s = Js.wTrue
      · rw [if_pos htr] at hR
        rw [decide_eq_true htr] at k2
        have n2 : ((bs t.s).toList == [116, 114, 117, 101]) = true := k2
        clear hnu htr k1 k2
        have HR := Lib.hid hR
        clear hR h1 h3
        obtain ⟨a00, a01, a02, a03, a04, a05, a06⟩ := rd_cells (hr.below (three_blk (w := w) (o0 := .cells #[.pointer (some ⟨rb, 0, none⟩)] 79) (o1 := .cells #[.int .i64 0, .int .i64 0, .string ⟨#[]⟩, .slice none 0 0, .slice none 0 0] 41) (o2 := .cells #[.int .i64 0, .int .i64 0, .string ⟨#[]⟩, .slice none 0 0, .slice none 0 0] 41)).2.2.2)
        obtain ⟨a10, a11, a12, a13, a14, a15, a16⟩ := rd_cells (hr.below (three_blk (w := w) (o0 := .cells #[.pointer (some ⟨rb, 0, none⟩)] 79) (o1 := .cells #[.int .i64 0, .int .i64 0, .string ⟨#[]⟩, .slice none 0 0, .slice none 0 0] 41) (o2 := .cells #[.int .i64 1, .int .i64 0, .string ⟨#[]⟩, .slice none 0 0, .slice none 0 0] 41)).2.2.2)
        obtain ⟨hx0, hx1, hx2, hxb⟩ := (three_blk (w := w) (o0 := .cells #[.pointer (some ⟨rb, 0, none⟩)] 79) (o1 := .cells #[.int .i64 0, .int .i64 0, .string ⟨#[]⟩, .slice none 0 0, .slice none 0 0] 41) (o2 := .cells #[.int .i64 1, .int .i64 1, .string ⟨#[]⟩, .slice none 0 0, .slice none 0 0] 41))
        have hrW : RdC (((w.alloc (.cells #[.pointer (some ⟨rb, 0, none⟩)] 79)).alloc (.cells #[.int .i64 0, .int .i64 0, .string ⟨#[]⟩, .slice none 0 0, .slice none 0 0] 41)).alloc (.cells #[.int .i64 1, .int .i64 1, .string ⟨#[]⟩, .slice none 0 0, .slice none 0 0] 41)) rb s t d := hr.below hxb
        go_enter Try.func48, Try.ntmps48
        go_wp2_with fail
        simp only [Nat.add_assoc, Nat.reduceAdd]
        clear a00 a01 a02 a03 a04 a05 a06 a10 a11 a12 a13 a14 a15 a16
        generalize ((w.alloc (.cells #[.pointer (some ⟨rb, 0, none⟩)] 79)).alloc (.cells #[.int .i64 0, .int .i64 0, .string ⟨#[]⟩, .slice none 0 0, .slice none 0 0] 41)).alloc (.cells #[.int .i64 1, .int .i64 1, .string ⟨#[]⟩, .slice none 0 0, .slice none 0 0] 41) = W at *
        have hgw : w.grownBy W (some rb) := gb_of hxb
        have hrl := (Array.getElem?_eq_some_iff.1 hrW).1
        have hn := jnext_post s rb t d W hs ht hrW
        have hWs : w.heap.size + 2 < W.heap.size := (Array.getElem?_eq_some_iff.1 hx2).1
        refine hn.mono ?_
        rintro e w3 ⟨hg3, ⟨t', hx, rfl, hr3⟩ | ⟨p, hx, rfl⟩⟩
        · have hq := HR.out
          unfold Js.fin at hq
          rw [hx] at hq
          have HQ := Lib.hid hq
          have e2 : w3.heap[w.heap.size + 2]? = _ := (hg3.block _ hWs (fun e => by cases e; omega)).trans hx2
          have e1 : w3.heap[w.heap.size + 1]? = _ := (hg3.block _ (by omega) (fun e => by cases e; omega)).trans hx1
          obtain ⟨y0, y1, y2, y3, y4⟩ := tok_cells e2
          obtain ⟨z0, z1, z2, z3, z4⟩ := tok_cells e1
          obtain ⟨v0, v1, v2, v3, v4⟩ := tok_frozen e1
          obtain ⟨wf, hwf, hwfb, hgf, hrf, hj⟩ := leaf_end (kd := 1) (n := 1) (x := []) (sx := ⟨#[]⟩) rfl h0 (hgw.trans hg3) hr3 e1
          clear hq HR hn hx
          go_wp2_with fail
          rw [← hwf]
          obtain ⟨u0, u1, u2, u3, u4⟩ := tok_cells hwfb
          clear hwf y0 y1 y2 y3 y4 z0 z1 z2 z3 z4 v0 v1 v2 v3 v4
          exact bodyPost_ret (v := .agg #[.int .i64 1, .int .i64 1, .string ⟨#[]⟩, .slice none 0 0, .slice none 0 0]) (by simp [results, Try.results48, go_sem, u0, u1, u2, u3, u4]) rfl ⟨hgf, .inl ⟨_, t', HQ.out, _, 1, rfl, hrf, hj⟩⟩
        · have hq := HR.out
          unfold Js.fin at hq
          rw [hx] at hq
          exact ⟨rfl, hgw.trans hg3, .inr ⟨_, hq, rfl⟩⟩
      · rw [if_neg htr] at hR
        rw [decide_eq_false htr] at k2
        have n2 : ((bs t.s).toList == [116, 114, 117, 101]) = false := k2
        clear hnu htr k1 k2
        have HR := Lib.hid hR
        clear hR h1 h3
        obtain ⟨a00, a01, a02, a03, a04, a05, a06⟩ := rd_cells (hr.below (three_blk (w := w) (o0 := .cells #[.pointer (some ⟨rb, 0, none⟩)] 79) (o1 := .cells #[.int .i64 0, .int .i64 0, .string ⟨#[]⟩, .slice none 0 0, .slice none 0 0] 41) (o2 := .cells #[.int .i64 0, .int .i64 0, .string ⟨#[]⟩, .slice none 0 0, .slice none 0 0] 41)).2.2.2)
        obtain ⟨a10, a11, a12, a13, a14, a15, a16⟩ := rd_cells (hr.below (three_blk (w := w) (o0 := .cells #[.pointer (some ⟨rb, 0, none⟩)] 79) (o1 := .cells #[.int .i64 0, .int .i64 0, .string ⟨#[]⟩, .slice none 0 0, .slice none 0 0] 41) (o2 := .cells #[.int .i64 1, .int .i64 0, .string ⟨#[]⟩, .slice none 0 0, .slice none 0 0] 41)).2.2.2)
        obtain ⟨hx0, hx1, hx2, hxb⟩ := (three_blk (w := w) (o0 := .cells #[.pointer (some ⟨rb, 0, none⟩)] 79) (o1 := .cells #[.int .i64 0, .int .i64 0, .string ⟨#[]⟩, .slice none 0 0, .slice none 0 0] 41) (o2 := .cells #[.int .i64 1, .int .i64 0, .string ⟨#[]⟩, .slice none 0 0, .slice none 0 0] 41))
        have hrW : RdC (((w.alloc (.cells #[.pointer (some ⟨rb, 0, none⟩)] 79)).alloc (.cells #[.int .i64 0, .int .i64 0, .string ⟨#[]⟩, .slice none 0 0, .slice none 0 0] 41)).alloc (.cells #[.int .i64 1, .int .i64 0, .string ⟨#[]⟩, .slice none 0 0, .slice none 0 0] 41)) rb s t d := hr.below hxb
        go_enter Try.func48, Try.ntmps48
        go_wp2_with fail
        simp only [Nat.add_assoc, Nat.reduceAdd]
        clear a00 a01 a02 a03 a04 a05 a06 a10 a11 a12 a13 a14 a15 a16
        generalize ((w.alloc (.cells #[.pointer (some ⟨rb, 0, none⟩)] 79)).alloc (.cells #[.int .i64 0, .int .i64 0, .string ⟨#[]⟩, .slice none 0 0, .slice none 0 0] 41)).alloc (.cells #[.int .i64 1, .int .i64 0, .string ⟨#[]⟩, .slice none 0 0, .slice none 0 0] 41) = W at *
        have hgw : w.grownBy W (some rb) := gb_of hxb
        have hrl := (Array.getElem?_eq_some_iff.1 hrW).1
        have hn := jnext_post s rb t d W hs ht hrW
        have hWs : w.heap.size + 2 < W.heap.size := (Array.getElem?_eq_some_iff.1 hx2).1
        refine hn.mono ?_
        rintro e w3 ⟨hg3, ⟨t', hx, rfl, hr3⟩ | ⟨p, hx, rfl⟩⟩
        · have hq := HR.out
          unfold Js.fin at hq
          rw [hx] at hq
          have HQ := Lib.hid hq
          have e2 : w3.heap[w.heap.size + 2]? = _ := (hg3.block _ hWs (fun e => by cases e; omega)).trans hx2
          have e1 : w3.heap[w.heap.size + 1]? = _ := (hg3.block _ (by omega) (fun e => by cases e; omega)).trans hx1
          obtain ⟨y0, y1, y2, y3, y4⟩ := tok_cells e2
          obtain ⟨z0, z1, z2, z3, z4⟩ := tok_cells e1
          obtain ⟨v0, v1, v2, v3, v4⟩ := tok_frozen e1
          obtain ⟨wf, hwf, hwfb, hgf, hrf, hj⟩ := leaf_end (kd := 1) (n := 0) (x := []) (sx := ⟨#[]⟩) rfl h0 (hgw.trans hg3) hr3 e1
          clear hq HR hn hx
          go_wp2_with fail
          rw [← hwf]
          obtain ⟨u0, u1, u2, u3, u4⟩ := tok_cells hwfb
          clear hwf y0 y1 y2 y3 y4 z0 z1 z2 z3 z4 v0 v1 v2 v3 v4
          exact bodyPost_ret (v := .agg #[.int .i64 1, .int .i64 0, .string ⟨#[]⟩, .slice none 0 0, .slice none 0 0]) (by simp [results, Try.results48, go_sem, u0, u1, u2, u3, u4]) rfl ⟨hgf, .inl ⟨_, t', HQ.out, _, 1, rfl, hrf, hj⟩⟩
        · have hq := HR.out
          unfold Js.fin at hq
          rw [hx] at hq
          exact ⟨rfl, hgw.trans hg3, .inr ⟨_, hq, rfl⟩⟩
  rw [if_neg h9] at hR
  have t9 : ((t.kind : Int) == 9) = false := by simp; omega
  have hxb := (three_blk (w := w) (o0 := .cells #[.pointer (some ⟨rb, 0, none⟩)] 79) (o1 := .cells #[.int .i64 0, .int .i64 0, .string ⟨#[]⟩, .slice none 0 0, .slice none 0 0] 41) (o2 := .cells #[.int .i64 0, .int .i64 0, .string ⟨#[]⟩, .slice none 0 0, .slice none 0 0] 41)).2.2.2
  have hm := jmust_any s rb t d false 2 _ (hr.below hxb)
  obtain ⟨a00, a01, a02, a03, a04, a05, a06⟩ := rd_cells (hr.below hxb)
  have hgw : w.grownBy _ (some rb) := gb_of hxb
  have HR := Lib.hid hR
  clear hR h1 h3 h7 h8 h9
  go_enter Try.func48, Try.ntmps48
  go_wp2_with fail
  refine hm.mono ?_
  rintro e w1 ⟨rfl, rfl⟩
  exact ⟨rfl, hgw, .inr ⟨_, HR.out, rfl⟩⟩

end Go.Proofs.Ythbpkmmnoeikoaa

/-
  The reader's thing, of a list and of an object, over the thing of less depth. Condition: as XJsonRow's; a text of at most 90000 bytes.
-/
namespace Go.Proofs.Ythbpkmmnoeikoaa
open Go Go.RowKit
set_option linter.unusedVariables false
set_option linter.unusedSimpArgs false

/-- behind the last token: the thing, with its rows, lies in block w's size + 1 -/
theorem node_end {w wi w3 : World} {rb bs : Nat} {s : ByteArray} {t' : Tk.Tok} {d kd : Int} {q : Js.St} {vs : List Value} {vn vl z0 z1 z2 z3 z4 : Value} (h0 : rb < w.heap.size) (h3 : w.heap.size + 3 ≤ bs)
    (hX : Xg w wi rb kd bs q.1 q.2 vs [] vn vl vl q.2.length ((vs.map c5).flatten) w3) (hr : RdC w3 rb s t' d) (hres : w3.heap[w.heap.size + 1]? = some (.cells #[z0, z1, z2, z3, z4] 41 (0, 0))) :
    ∃ wf, wf = ((((w3.setCell ⟨w.heap.size + 1, 0, none⟩ (.int .i64 kd)).setCell ⟨w.heap.size + 1, 1, none⟩ (.int .i64 0)).setCell ⟨w.heap.size + 1, 2, none⟩ (.string ⟨#[]⟩)).setCell ⟨w.heap.size + 1, 3, none⟩ vn).setCell ⟨w.heap.size + 1, 4, none⟩ vl ∧
      wf.heap[w.heap.size + 1]? = some (.cells #[.int .i64 kd, .int .i64 0, .string ⟨#[]⟩, vn, vl] 41 (0, 0)) ∧ w.grownBy wf (some rb) ∧ RdC wf rb s t' d ∧
      ∃ k, JVn k (fun b => w.heap.size ≤ b ∧ b < wf.heap.size) wf (.agg #[.int .i64 kd, .int .i64 0, .string ⟨#[]⟩, vn, vl]) (.mk kd 0 [] q.1 q.2) := by
  obtain ⟨D, k, hX⟩ := hX
  have hg := hX.gr
  have hb := tok_below5 w3 (w.heap.size + 1) (.int .i64 kd) (.int .i64 0) (.string ⟨#[]⟩) vn vl
  have ho : ∀ b, b ≠ w.heap.size + 1 → (((((w3.setCell ⟨w.heap.size + 1, 0, none⟩ (.int .i64 kd)).setCell ⟨w.heap.size + 1, 1, none⟩ (.int .i64 0)).setCell ⟨w.heap.size + 1, 2, none⟩ (.string ⟨#[]⟩)).setCell ⟨w.heap.size + 1, 3, none⟩ vn).setCell ⟨w.heap.size + 1, 4, none⟩ vl).heap[b]? = w3.heap[b]? := fun b hb =>
    (heap_setCell_other _ ⟨w.heap.size + 1, 4, none⟩ b _ hb).trans ((heap_setCell_other _ ⟨w.heap.size + 1, 3, none⟩ b _ hb).trans ((heap_setCell_other _ ⟨w.heap.size + 1, 2, none⟩ b _ hb).trans ((heap_setCell_other _ ⟨w.heap.size + 1, 1, none⟩ b _ hb).trans (heap_setCell_other _ ⟨w.heap.size + 1, 0, none⟩ b _ hb))))
  refine ⟨_, rfl, row_set (row_set (row_set (row_set (row_set hres 0 _) 1 _) 2 _) 3 _) 4 _, ⟨hb.os.trans hg.os, hb.tape.trans hg.tape, hb.output.trans hg.output, Nat.le_trans hg.size hb.size, fun k hk hne => (hb.block k (by omega)).trans (hg.block k hk hne)⟩, (hb.block rb (by omega)).trans hr, k + 1, ?_⟩
  have hn := names_own (S := fun b => bs ≤ b ∧ b < w3.heap.size) hX.nm (fun b hb => hX.nm.lt b hb)
  have hi := KidsV.items (S' := fun b => bs ≤ b ∧ b < w3.heap.size) (⟨hX.kidl, hX.own, hX.kid⟩ : KidsV k D w3 bs vl q.2 vs) (fun b hb => ⟨(hX.dom b hb).1, (hX.dom b hb).2.1⟩) (fun b hb => hX.own.lt b hb)
  have hj : JVn (k + 1) (fun b => bs ≤ b ∧ b < w3.heap.size) w3 (.agg #[.int .i64 kd, .int .i64 0, .string ⟨#[]⟩, vn, vl]) (.mk kd 0 [] q.1 q.2) := ⟨vn, vl, rfl, hn, hi⟩
  exact JVn.keep (fun b h => ⟨by omega, Nat.lt_of_lt_of_le h.2 hb.size⟩) (fun b h => ho b (by omega)) _ _ _ hj

theorem xg_x {w0 wi W : World} {rb bs n : Nat} {kd : Int} {ns : List (List UInt8)} {xs : List Js.J} {vs : List Value} {ex : List (Value × Js.J)} {vn vx vl : Value} {cs : List Value} (h : Xg w0 wi rb kd bs ns xs vs ex vn vx vl n cs W) :
    W.heap[w0.heap.size + 2]? = some (.cells #[.int .i64 kd, .int .i64 0, .string ⟨#[]⟩, vn, vx] 41 (0, 0)) := by
  obtain ⟨D, k, h⟩ := h
  exact h.x
theorem Xg.start {w W0 : World} {rb bs : Nat} {kd : Int} (hb : Below w.heap.size w W0) (hx : W0.heap[w.heap.size + 2]? = some (.cells #[.int .i64 kd, .int .i64 0, .string ⟨#[]⟩, .slice none 0 0, .slice none 0 0] 41 (0, 0))) (hs : bs ≤ W0.heap.size) :
    Xg w W0 rb kd bs [] [] [] [] (.slice none 0 0) (.slice none 0 0) (.slice none 0 0) 0 [] W0 :=
  ⟨fun _ => False, 0, ⟨gb_of hb, hx, fun _ _ _ _ => rfl, World.ownsRow_nil _ _ _ _, World.ownsRow_nil _ _ _ _, rfl, fun i h => by simp at h, fun p hp => by simp at hp, fun _ h => h.elim, fun _ h => by simp [Value.ownBlock] at h, hs⟩⟩

set_option maxRecDepth 100000 in
set_option maxHeartbeats 8000000 in
theorem jthing_list (s : ByteArray) (n : Nat) (d : Int) (hs : s.size ≤ 90000) (hd : d ≤ 1000000) (hd2 : -9223372036854775808 ≤ d) (IH : 0 < d → ThOk s (d - 1) (Js.thing n s.data.toList (d - 1))) (rb : Nat) (t : Tk.Tok) (w : World) (hr : RdC w rb s t d) (ht : t.end' ≤ s.size) (h1 : t.kind = 1)
    (hF : Js.Fu (Js.thing (n + 1) s.data.toList d t)) :
    Calls Try.prog 48 #[.pointer (some ⟨rb, 0, none⟩)] w (ThPost rb s d w (Js.thing (n + 1) s.data.toList d t)) := by
  have hmf : ∀ (fn : Fn) (first cap : Array Value) (w : World), (Instr.makeFunc fn first cap).run Try.prog w = .ok (.func fn first cap) w := fun _ _ _ _ => rfl
  have h0 : rb < w.heap.size := (Array.getElem?_eq_some_iff.1 hr).1
  obtain ⟨R, hR⟩ : ∃ R, R = Js.thing (n + 1) s.data.toList d t := ⟨_, rfl⟩
  rw [← hR] at hF ⊢
  rw [Js.thing] at hR
  dsimp only at hR
  rw [if_pos h1] at hR
  have t1 : ((t.kind : Int) == 1) = true := by simp [h1]
  have hFr : Js.Fu (Js.row s.data.toList (Js.oneL (Js.thing n s.data.toList (d - 1))) 2 d ([], []) t) := fun e => by rw [e] at hR; exact hF hR
  have hb3 := (three_blk (w := w) (o0 := .cells #[.pointer (some ⟨rb, 0, none⟩)] 79) (o1 := .cells #[.int .i64 0, .int .i64 0, .string ⟨#[]⟩, .slice none 0 0, .slice none 0 0] 41) (o2 := .cells #[.int .i64 0, .int .i64 0, .string ⟨#[]⟩, .slice none 0 0, .slice none 0 0] 41)).2.2.2
  obtain ⟨c0, c1, c2, c3, c4, c5', c6⟩ := rd_cells (hr.below hb3)
  obtain ⟨hx0, hx1, hx2, hxb⟩ := (three_blk (w := w) (o0 := .cells #[.pointer (some ⟨rb, 0, none⟩)] 79) (o1 := .cells #[.int .i64 0, .int .i64 0, .string ⟨#[]⟩, .slice none 0 0, .slice none 0 0] 41) (o2 := .cells #[.int .i64 5, .int .i64 0, .string ⟨#[]⟩, .slice none 0 0, .slice none 0 0] 41))
  have hrW := hr.below hxb
  have HR := Lib.hid hR
  have hwf := Js.thing_wf s.data.toList n (d - 1)
  have H1 := Lib.hid h1
  clear hR hF h1
  go_enter Try.func48, Try.ntmps48
  go_wp2_with fail
  simp only [Nat.add_assoc, Nat.reduceAdd]
  clear c0 c1 c2 c3 c4 c5' c6
  generalize ((w.alloc (.cells #[.pointer (some ⟨rb, 0, none⟩)] 79)).alloc (.cells #[.int .i64 0, .int .i64 0, .string ⟨#[]⟩, .slice none 0 0, .slice none 0 0] 41)).alloc (.cells #[.int .i64 5, .int .i64 0, .string ⟨#[]⟩, .slice none 0 0, .slice none 0 0] 41) = W0 at *
  have hWs : w.heap.size + 2 < W0.heap.size := (Array.getElem?_eq_some_iff.1 hx2).1
  have hl := len_data s
  refine (jrow2_any s rb d (Js.oneL (Js.thing n s.data.toList (d - 1))) (fun m q W => LI w W0 rb 5 (w.heap.size + 3) m q W) (fun W => w.grownBy W (some rb)) 83 _ 2 (by omega) (enters_of Try.func83 (by kernel_rfl) rfl)
    (fun m q W W' h hg => by obtain ⟨a, vs, vn, vl, b⟩ := h; exact ⟨a, vs, vn, vl, b.reader hg h0 (Nat.le_refl _)⟩) (fun m q W h => by obtain ⟨a, vs, vn, vl, b⟩ := h; exact xg_gr b) (Js.eats_L hwf)
    (fun hd0 m q t W hm ht hI hr hF _ => joneL_any s rb (d - 1) _ w W0 h0 5 (w.heap.size + 3) (Nat.le_refl _) (IH hd0) hx0 m q t W (by omega) ht hI hr hF)
    ([], []) t W0 hd hd2 ht ⟨rfl, [], _, _, Xg.start hxb hx2 (by omega)⟩ hrW hFr).mono ?_
  rintro e W1 (⟨q', t', hq, rfl, hr1, m, hln, vs, vn, vl, hX⟩ | ⟨p, hq, rfl, hg⟩)
  · have hR := HR.out
    rw [hq] at hR
    dsimp only at hR
    have ht' := (Js.row_wf (Js.eats_L hwf) hq (by omega) (by have := H1.out; omega)).1
    dsimp only at ht'
    obtain ⟨np, nc, rfl⟩ : ∃ p c, vn = .slice p q'.1.length c := row_form (xg_nm hX)
    obtain ⟨lp, lc, rfl⟩ : ∃ p c, vl = .slice p q'.2.length c := row_form (xg_own hX)
    have hn := jnext_post s rb t' d W1 (by omega) (by omega) hr1
    have hbx : W1.heap[w.heap.size]? = _ := (by obtain ⟨D, k, h⟩ := hX; exact (h.fr _ (by omega) (by omega) (by omega)) : W1.heap[w.heap.size]? = W0.heap[w.heap.size]?).trans hx0
    have hbr : W1.heap[w.heap.size + 1]? = _ := (by obtain ⟨D, k, h⟩ := hX; exact (h.fr _ (by omega) (by omega) (by omega)) : W1.heap[w.heap.size + 1]? = W0.heap[w.heap.size + 1]?).trans hx1
    have b0 : W1.cell? ⟨w.heap.size, 0, none⟩ = some (.pointer (some ⟨rb, 0, none⟩)) := (cell_of_row _ _ 0 _ _ (0, 0) hbx).trans rfl
    have HR2 := Lib.hid hR
    clear hR hq HR IH hwf hFr hln
    go_wp2_with fail
    refine hn.mono ?_
    rintro e w3 ⟨hg3, ⟨t2, hx, rfl, hr3⟩ | ⟨p, hx, rfl⟩⟩
    · have hq := HR2.out
      unfold Js.fin at hq
      rw [hx] at hq
      have HQ := Lib.hid hq
      have hX3 := hX.reader hg3 h0 (Nat.le_refl _)
      have hs1 := xg_size hX
      have e1 : w3.heap[w.heap.size + 1]? = _ := (hg3.block _ (by omega) (fun e => by cases e; omega)).trans hbr
      have e2 := xg_x hX3
      obtain ⟨y0, y1, y2, y3, y4⟩ := tok_cells e2
      obtain ⟨z0, z1, z2, z3, z4⟩ := tok_cells e1
      obtain ⟨v0, v1, v2, v3, v4⟩ := tok_frozen e1
      obtain ⟨wf, hwf, hwfb, hgf, hrf, k, hj⟩ := node_end h0 (Nat.le_refl _) hX3 hr3 e1
      clear hq hn hx b0 HR2
      go_wp2_with fail
      rw [← hwf]
      obtain ⟨u0, u1, u2, u3, u4⟩ := tok_cells hwfb
      clear hwf y0 y1 y2 y3 y4 z0 z1 z2 z3 z4 v0 v1 v2 v3 v4
      exact bodyPost_ret (v := .agg #[.int .i64 5, .int .i64 0, .string ⟨#[]⟩, .slice np q'.1.length nc, .slice lp q'.2.length lc]) (by simp [results, Try.results48, go_sem, u0, u1, u2, u3, u4]) rfl ⟨hgf, .inl ⟨_, t2, HQ.out, _, k, rfl, hrf, hj⟩⟩
    · have hq := HR2.out
      unfold Js.fin at hq
      rw [hx] at hq
      exact ⟨rfl, (xg_gr hX).trans hg3, .inr ⟨_, hq, rfl⟩⟩
  · have hR := HR.out
    rw [hq] at hR
    exact ⟨rfl, hg, .inr ⟨_, hR, rfl⟩⟩

end Go.Proofs.Ythbpkmmnoeikoaa

/-
  The reader's thing, of an object, over the thing of less depth; the thing of every depth. Condition: as XJsonRow's; a text of at most 90000 bytes.
-/
namespace Go.Proofs.Ythbpkmmnoeikoaa
open Go Go.RowKit
set_option linter.unusedVariables false
set_option linter.unusedSimpArgs false

theorem five_blk {w : World} {o0 o1 o2 o3 o4 : Obj} : (((((w.alloc o0).alloc o1).alloc o2).alloc o3).alloc o4).heap[w.heap.size]? = some o0 ∧ (((((w.alloc o0).alloc o1).alloc o2).alloc o3).alloc o4).heap[w.heap.size + 1]? = some o1 ∧ (((((w.alloc o0).alloc o1).alloc o2).alloc o3).alloc o4).heap[w.heap.size + 2]? = some o2 ∧
    (((((w.alloc o0).alloc o1).alloc o2).alloc o3).alloc o4).heap[w.heap.size + 3]? = some o3 ∧ (((((w.alloc o0).alloc o1).alloc o2).alloc o3).alloc o4).heap[w.heap.size + 4]? = some o4 ∧ Below w.heap.size w (((((w.alloc o0).alloc o1).alloc o2).alloc o3).alloc o4) := by
  obtain ⟨h0, h1, h2, hb⟩ := three_blk (w := w) (o0 := o0) (o1 := o1) (o2 := o2)
  have e3 : (((w.alloc o0).alloc o1).alloc o2).heap.size = w.heap.size + 3 := by simp
  generalize ((w.alloc o0).alloc o1).alloc o2 = W at *
  have e4 : (W.alloc o3).heap.size = w.heap.size + 4 := by simp [e3]
  have up : ∀ b o, W.heap[b]? = some o → ((W.alloc o3).alloc o4).heap[b]? = some o := fun b o h => by
    have hlt := (Array.getElem?_eq_some_iff.1 h).1
    exact (Below.heap_alloc _ _ _ (by simp; omega)).trans ((Below.heap_alloc _ _ _ hlt).trans h)
  refine ⟨up _ _ h0, up _ _ h1, up _ _ h2, ?_, ?_, (hb.alloc (by omega) _).alloc (by omega) _⟩
  · have := heap_alloc_new W o3
    rw [e3] at this
    exact (Below.heap_alloc _ _ _ (by omega)).trans this
  · have := heap_alloc_new (W.alloc o3) o4
    rwa [e4] at this
theorem five_set {w : World} {o0 o1 o2 o4 : Obj} : SetM (((((w.alloc o0).alloc o1).alloc o2).alloc (.map #[] 0)).alloc o4) (w.heap.size + 3) [] := by
  have h := SetM.made (((w.alloc o0).alloc o1).alloc o2)
  have e3 : (((w.alloc o0).alloc o1).alloc o2).heap.size = w.heap.size + 3 := by simp
  rw [e3] at h
  exact h.kept (World.grownBy_alloc _ o4 none) (by simp)

set_option maxRecDepth 100000 in
set_option maxHeartbeats 8000000 in
theorem jthing_obj (s : ByteArray) (n : Nat) (d : Int) (hs : s.size ≤ 90000) (hd : d ≤ 1000000) (hd2 : -9223372036854775808 ≤ d) (IH : 0 < d → ThOk s (d - 1) (Js.thing n s.data.toList (d - 1))) (rb : Nat) (t : Tk.Tok) (w : World) (hr : RdC w rb s t d) (ht : t.end' ≤ s.size) (h1 : t.kind = 3)
    (hF : Js.Fu (Js.thing (n + 1) s.data.toList d t)) :
    Calls Try.prog 48 #[.pointer (some ⟨rb, 0, none⟩)] w (ThPost rb s d w (Js.thing (n + 1) s.data.toList d t)) := by
  have hmf : ∀ (fn : Fn) (first cap : Array Value) (w : World), (Instr.makeFunc fn first cap).run Try.prog w = .ok (.func fn first cap) w := fun _ _ _ _ => rfl
  have h0 : rb < w.heap.size := (Array.getElem?_eq_some_iff.1 hr).1
  obtain ⟨R, hR⟩ : ∃ R, R = Js.thing (n + 1) s.data.toList d t := ⟨_, rfl⟩
  rw [← hR] at hF ⊢
  rw [Js.thing] at hR
  dsimp only at hR
  rw [if_neg (by omega), if_pos h1] at hR
  have t0 : ((t.kind : Int) == 1) = false := by simp; omega
  have t1 : ((t.kind : Int) == 3) = true := by simp [h1]
  have hmm := @run_makeMap Try.prog
  have hFr : Js.Fu (Js.row s.data.toList (Js.oneO s.data.toList (Js.thing n s.data.toList (d - 1))) 4 d ([], []) t) := fun e => by rw [e] at hR; exact hF hR
  have hb3 := (three_blk (w := w) (o0 := .cells #[.pointer (some ⟨rb, 0, none⟩)] 79) (o1 := .cells #[.int .i64 0, .int .i64 0, .string ⟨#[]⟩, .slice none 0 0, .slice none 0 0] 41) (o2 := .cells #[.int .i64 0, .int .i64 0, .string ⟨#[]⟩, .slice none 0 0, .slice none 0 0] 41)).2.2.2
  obtain ⟨c0, c1, c2, c3, c4, c5', c6⟩ := rd_cells (hr.below hb3)
  have hb6 := (three_blk (w := w) (o0 := .cells #[.pointer (some ⟨rb, 0, none⟩)] 79) (o1 := .cells #[.int .i64 0, .int .i64 0, .string ⟨#[]⟩, .slice none 0 0, .slice none 0 0] 41) (o2 := .cells #[.int .i64 6, .int .i64 0, .string ⟨#[]⟩, .slice none 0 0, .slice none 0 0] 41)).2.2.2
  obtain ⟨d0, d1, d2, d3, d4, d5, d6⟩ := rd_cells (hr.below hb6)
  obtain ⟨hx0, hx1, hx2, hx3, hx4, hxb⟩ := (five_blk (w := w) (o0 := .cells #[.pointer (some ⟨rb, 0, none⟩)] 79) (o1 := .cells #[.int .i64 0, .int .i64 0, .string ⟨#[]⟩, .slice none 0 0, .slice none 0 0] 41) (o2 := .cells #[.int .i64 6, .int .i64 0, .string ⟨#[]⟩, .slice none 0 0, .slice none 0 0] 41) (o3 := .map #[] 0) (o4 := .cells #[.map (some (w.heap.size + 3))] 122))
  have hset : SetM _ (w.heap.size + 3) [] := five_set (w := w) (o0 := .cells #[.pointer (some ⟨rb, 0, none⟩)] 79) (o1 := .cells #[.int .i64 0, .int .i64 0, .string ⟨#[]⟩, .slice none 0 0, .slice none 0 0] 41) (o2 := .cells #[.int .i64 6, .int .i64 0, .string ⟨#[]⟩, .slice none 0 0, .slice none 0 0] 41) (o4 := .cells #[.map (some (w.heap.size + 3))] 122)
  have hrW := hr.below hxb
  have HR := Lib.hid hR
  have hwf := Js.thing_wf s.data.toList n (d - 1)
  have H1 := Lib.hid h1
  clear hR hF h1
  go_enter Try.func48, Try.ntmps48
  go_wp2_with fail
  simp only [Nat.add_assoc, Nat.reduceAdd]
  clear c0 c1 c2 c3 c4 c5' c6 d0 d1 d2 d3 d4 d5 d6
  generalize ((((w.alloc (.cells #[.pointer (some ⟨rb, 0, none⟩)] 79)).alloc (.cells #[.int .i64 0, .int .i64 0, .string ⟨#[]⟩, .slice none 0 0, .slice none 0 0] 41)).alloc (.cells #[.int .i64 6, .int .i64 0, .string ⟨#[]⟩, .slice none 0 0, .slice none 0 0] 41)).alloc (.map #[] 0)).alloc (.cells #[.map (some (w.heap.size + 3))] 122) = W0 at *
  have hWs : w.heap.size + 4 < W0.heap.size := (Array.getElem?_eq_some_iff.1 hx4).1
  have hOb : ObF w rb [] W0 := ⟨hx0, hx1, hx4, hset⟩
  have hl := len_data s
  refine (jrow2_any s rb d (Js.oneO s.data.toList (Js.thing n s.data.toList (d - 1))) (fun m q W => LO w rb m q W) (fun W => w.grownBy W (some rb)) 84 _ 4 (by omega) (enters_of Try.func84 (by kernel_rfl) rfl)
    (fun m q W W' h hg => by obtain ⟨⟨a, vs, vn, vl, b⟩, c, o⟩ := h; exact ⟨⟨a, vs, vn, vl, (b.reader hg h0 (by omega)).base⟩, c, ob_reader o hg h0 (xg_size b)⟩) (fun m q W h => by obtain ⟨⟨a, vs, vn, vl, b⟩, c, o⟩ := h; exact xg_gr b) (Js.eats_O hwf)
    (fun hd0 m q t W hm ht hI hr hF hp => by
      obtain ⟨t0, hnx, _⟩ := hp
      have hsm := nx_small hnx
      exact joneO_any s rb (d - 1) _ w h0 (by omega) (IH hd0) m q t W (by omega) ht (by unfold maxLen; omega) hI hr hF)
    ([], []) t W0 hd hd2 ht ⟨⟨rfl, [], _, _, (Xg.start hxb hx2 (by omega) : Xg w W0 rb 6 (w.heap.size + 5) [] [] [] [] (.slice none 0 0) (.slice none 0 0) (.slice none 0 0) 0 [] W0)⟩, rfl, hOb⟩ hrW hFr).mono ?_
  rintro e W1 (⟨q', t', hq, rfl, hr1, m, ⟨hln, vs, vn, vl, hX⟩, hln2, hO1⟩ | ⟨p, hq, rfl, hg⟩)
  · have hR := HR.out
    rw [hq] at hR
    dsimp only at hR
    have ht' := (Js.row_wf (Js.eats_O hwf) hq (by omega) (by have := H1.out; omega)).1
    dsimp only at ht'
    obtain ⟨np, nc, rfl⟩ : ∃ p c, vn = .slice p q'.1.length c := row_form (xg_nm hX)
    obtain ⟨lp, lc, rfl⟩ : ∃ p c, vl = .slice p q'.2.length c := row_form (xg_own hX)
    have hn := jnext_post s rb t' d W1 (by omega) (by omega) hr1
    have hbx := hO1.box
    have hbr := hO1.res
    have b0 : W1.cell? ⟨w.heap.size, 0, none⟩ = some (.pointer (some ⟨rb, 0, none⟩)) := (cell_of_row _ _ 0 _ _ (0, 0) hbx).trans rfl
    have HR2 := Lib.hid hR
    clear hR hq HR IH hwf hFr hln hln2 hO1
    go_wp2_with fail
    refine hn.mono ?_
    rintro e w3 ⟨hg3, ⟨t2, hx, rfl, hr3⟩ | ⟨p, hx, rfl⟩⟩
    · have hq := HR2.out
      unfold Js.fin at hq
      rw [hx] at hq
      have HQ := Lib.hid hq
      have hX3 := hX.reader hg3 h0 (by omega)
      have hs1 := xg_size hX
      have e1 : w3.heap[w.heap.size + 1]? = _ := (hg3.block _ (by omega) (fun e => by cases e; omega)).trans hbr
      have e2 := xg_x hX3
      obtain ⟨y0, y1, y2, y3, y4⟩ := tok_cells e2
      obtain ⟨z0, z1, z2, z3, z4⟩ := tok_cells e1
      obtain ⟨v0, v1, v2, v3, v4⟩ := tok_frozen e1
      obtain ⟨wf, hwf, hwfb, hgf, hrf, k, hj⟩ := node_end h0 (by omega) hX3 hr3 e1
      clear hq hn hx b0 HR2
      go_wp2_with fail
      rw [← hwf]
      obtain ⟨u0, u1, u2, u3, u4⟩ := tok_cells hwfb
      clear hwf y0 y1 y2 y3 y4 z0 z1 z2 z3 z4 v0 v1 v2 v3 v4
      exact bodyPost_ret (v := .agg #[.int .i64 6, .int .i64 0, .string ⟨#[]⟩, .slice np q'.1.length nc, .slice lp q'.2.length lc]) (by simp [results, Try.results48, go_sem, u0, u1, u2, u3, u4]) rfl ⟨hgf, .inl ⟨_, t2, HQ.out, _, k, rfl, hrf, hj⟩⟩
    · have hq := HR2.out
      unfold Js.fin at hq
      rw [hx] at hq
      exact ⟨rfl, (xg_gr hX).trans hg3, .inr ⟨_, hq, rfl⟩⟩
  · have hR := HR.out
    rw [hq] at hR
    exact ⟨rfl, hg, .inr ⟨_, hR, rfl⟩⟩

/-- the reader's thing keeps its word -/
theorem jthing_any (s : ByteArray) (hs : s.size ≤ 90000) : ∀ (n : Nat) (d : Int), d ≤ 1000000 → -9223372036854775808 ≤ d → ThOk s d (Js.thing n s.data.toList d)
  | 0, d, _, _ => fun rb t W hr ht hF => absurd rfl hF
  | n + 1, d, hd, hd2 => fun rb t W hr ht hF => by
    by_cases h1 : t.kind = 1
    · exact jthing_list s n d hs hd hd2 (fun h => jthing_any s hs n (d - 1) (by omega) (by omega)) rb t W hr ht h1 hF
    · by_cases h3 : t.kind = 3
      · exact jthing_obj s n d hs hd hd2 (fun h => jthing_any s hs n (d - 1) (by omega) (by omega)) rb t W hr ht h3 hF
      · exact jthing_leaf s n d (by omega) rb t W hr ht h1 h3

end Go.Proofs.Ythbpkmmnoeikoaa

/-
  Parse's deferred closure: what it makes of a reader that has given up, and of one that has not. No condition.
-/
namespace Go.Proofs.Ythbpkmmnoeikoaa
open Go Go.RowKit
set_option linter.unusedVariables false
set_option linter.unusedSimpArgs false

theorem wpS_by {P : Program} {c : Code} {Q : Exit → Act → List Frame → World → Prop} {a : Act} {cs : List Frame} {w : World} (h : ∀ Q' : Exit → Act → World → Prop, Hid (∀ e a' w', Q e a' cs w' → Q' e a' w') → c.wp P Q' a w) : c.wpS P Q a cs w :=
  wpS_of_wp (h _ (fun _ _ _ h => h))

set_option maxRecDepth 100000 in
set_option maxHeartbeats 400000 in
theorem catch_idle (p q r : Addr) (w : World) :
    CallsD Try.prog 46 #[.pointer (some p), .pointer (some q), .pointer (some r)] .returning w fun e u' w' => e = .returned (.tuple #[]) ∧ u' = .returning ∧ w' = w := by
  refine callsD_of_wpS Try.func46 rfl fun c₀ cs hu => ?_
  apply wpS_seq
  apply wpS_region
  simp [wpOpsS, go_sem, recoverD, hu, Try.ntmps46, Exit.thenS]
  refine wpS_by fun Q' HK => ?_
  simp only [Array.replicate_succ, Array.replicate_zero, List.push_toArray, List.append_toArray, List.nil_append, List.cons_append, List.setIfInBounds_toArray, List.set_cons_zero, List.set_cons_succ]
  go_wp2
  refine HK.out _ _ _ ?_
  clear HK
  cases c₀
  simp_all [bodyPostS, results, Try.results46]

theorem catch_fin {w W : World} {b : Nat} {a c : Int} {u0 u1 u2 u3 u4 : Value} (hb : b ≤ w.heap.size) (hba : Below w.heap.size w W) (kx : W.heap[b]? = some (.cells #[u0, u1, u2, u3, u4] 41 (0, 0)))
    (kq : W.heap[b + 1]? = some (.cells #[.int .i64 0] 3 (0, 0))) (kr : W.heap[b + 2]? = some (.cells #[.int .i64 0] 27 (0, 0))) :
    ∃ Wf, Wf = ((((((W.setCell ⟨b, 0, none⟩ (.int .i64 0)).setCell ⟨b, 1, none⟩ (.int .i64 0)).setCell ⟨b, 2, none⟩ (.string ⟨#[]⟩)).setCell ⟨b, 3, none⟩ (.slice none 0 0)).setCell ⟨b, 4, none⟩ (.slice none 0 0)).setCell ⟨b + 1, 0, none⟩ (.int .i64 a)).setCell ⟨b + 2, 0, none⟩ (.int .i64 c) ∧
      Wf.heap[b]? = some (.cells #[.int .i64 0, .int .i64 0, .string ⟨#[]⟩, .slice none 0 0, .slice none 0 0] 41 (0, 0)) ∧ Wf.heap[b + 1]? = some (.cells #[.int .i64 a] 3 (0, 0)) ∧ Wf.heap[b + 2]? = some (.cells #[.int .i64 c] 27 (0, 0)) ∧ Below b w Wf := by
  have e1 : b ≠ b + 1 := by omega
  have e2 : b ≠ b + 2 := by omega
  refine ⟨_, rfl, ?_, ?_, ?_, ?_⟩
  · exact row_other (row_other (row_set (row_set (row_set (row_set (row_set kx 0 _) 1 _) 2 _) 3 _) 4 _) (show b + 1 ≠ b by omega) 0 _) (show b + 2 ≠ b by omega) 0 _
  · exact row_other (row_set (row_other (row_other (row_other (row_other (row_other kq e1 0 _) e1 1 _) e1 2 _) e1 3 _) e1 4 _) 0 _) (show b + 2 ≠ b + 1 by omega) 0 _
  · exact row_set (row_other (row_other (row_other (row_other (row_other (row_other kr e2 0 _) e2 1 _) e2 2 _) e2 3 _) e2 4 _) (show b + 1 ≠ b + 2 by omega) 0 _) 0 _
  · exact (((hba.mono hb).trans (tok_below5 W b _ _ _ _ _)).setCell (p := ⟨b + 1, 0, none⟩) (show b ≤ b + 1 by omega) _).setCell (p := ⟨b + 2, 0, none⟩) (show b ≤ b + 2 by omega) _

theorem ta_wrong (v : Value) (w : World) : (Instr.typeAssert (.iface 77 v) 20 77 true).run Try.prog w = .ok (.tuple #[v, .bool true]) w := by kernel_rfl

set_option maxRecDepth 100000 in
set_option maxHeartbeats 1000000 in
theorem catch_wrong (b : Nat) (a c : Int) (w : World) (u0 u1 u2 u3 u4 : Value) (hx : w.heap[b]? = some (.cells #[u0, u1, u2, u3, u4] 41 (0, 0)))
    (hq : w.heap[b + 1]? = some (.cells #[.int .i64 0] 3 (0, 0))) (hr : w.heap[b + 2]? = some (.cells #[.int .i64 0] 27 (0, 0))) :
    CallsD Try.prog 46 #[.pointer (some ⟨b, 0, none⟩), .pointer (some ⟨b + 1, 0, none⟩), .pointer (some ⟨b + 2, 0, none⟩)] (.panicking [{ v := .iface 77 (.agg #[.int .i64 a, .int .i64 c]), recovered := false }]) w fun e u' w' =>
      e = .returned (.tuple #[]) ∧ u' = .panicking [{ v := .iface 77 (.agg #[.int .i64 a, .int .i64 c]), recovered := true }] ∧ w'.heap[b]? = some (.cells #[.int .i64 0, .int .i64 0, .string ⟨#[]⟩, .slice none 0 0, .slice none 0 0] 41 (0, 0)) ∧
        w'.heap[b + 1]? = some (.cells #[.int .i64 a] 3 (0, 0)) ∧ w'.heap[b + 2]? = some (.cells #[.int .i64 c] 27 (0, 0)) ∧ Below b w w' := by
  have y0 := tok_cells hx
  obtain ⟨y0, y1, y2, y3, y4⟩ := y0
  obtain ⟨v0, v1, v2, v3, v4⟩ := tok_frozen hx
  have q0 : w.cell? ⟨b + 1, 0, none⟩ = some (.int .i64 0) := (cell_of_row _ _ 0 _ _ (0, 0) hq).trans rfl
  have r0 : w.cell? ⟨b + 2, 0, none⟩ = some (.int .i64 0) := (cell_of_row _ _ 0 _ _ (0, 0) hr).trans rfl
  have q1 : w.frozen? ⟨b + 1, 0, none⟩ = false := by simp [World.frozen?, hq]
  have r1 : w.frozen? ⟨b + 2, 0, none⟩ = false := by simp [World.frozen?, hr]
  have hta := ta_wrong (.agg #[.int .i64 a, .int .i64 c]) w
  refine callsD_of_wpS Try.func46 rfl fun c₀ cs hu => ?_
  apply wpS_seq
  apply wpS_region
  simp [wpOpsS, go_sem, recoverD, hu, Try.ntmps46, Exit.thenS]
  refine wpS_by fun Q' HK => ?_
  simp only [Array.replicate_succ, Array.replicate_zero, List.push_toArray, List.append_toArray, List.nil_append, List.cons_append, List.setIfInBounds_toArray, List.set_cons_zero, List.set_cons_succ]
  go_wp2
  have hlt : b + 2 < w.heap.size := (Array.getElem?_eq_some_iff.1 hr).1
  have hba := (Below.refl w.heap.size w).alloc (Nat.le_refl _) (.cells #[.int .i64 a, .int .i64 c] 77)
  have hg := heap_alloc_new w (.cells #[.int .i64 a, .int .i64 c] 77)
  have kx := (hba.block _ (by omega)).trans hx
  have kq := (hba.block _ (by omega)).trans hq
  have kr := (hba.block _ (by omega)).trans hr
  clear y0 y1 y2 y3 y4 v0 v1 v2 v3 v4 q0 r0 q1 r1 hta
  generalize w.alloc (.cells #[.int .i64 a, .int .i64 c] 77) = W at *
  obtain ⟨y0, y1, y2, y3, y4⟩ := tok_cells kx
  obtain ⟨v0, v1, v2, v3, v4⟩ := tok_frozen kx
  have q0 : W.cell? ⟨b + 1, 0, none⟩ = some (.int .i64 0) := (cell_of_row _ _ 0 _ _ (0, 0) kq).trans rfl
  have r0 : W.cell? ⟨b + 2, 0, none⟩ = some (.int .i64 0) := (cell_of_row _ _ 0 _ _ (0, 0) kr).trans rfl
  have q1 : W.frozen? ⟨b + 1, 0, none⟩ = false := by simp [World.frozen?, kq]
  have r1 : W.frozen? ⟨b + 2, 0, none⟩ = false := by simp [World.frozen?, kr]
  have g0 : W.cell? ⟨w.heap.size, 0, none⟩ = some (.int .i64 a) := (cell_of_row _ _ 0 _ _ (0, 0) hg).trans rfl
  have g1 : W.cell? ⟨w.heap.size, 1, none⟩ = some (.int .i64 c) := (cell_of_row _ _ 1 _ _ (0, 0) hg).trans rfl
  have n0 : b ≠ w.heap.size := by omega
  have n1 : b + 1 ≠ w.heap.size := by omega
  have n2 : b + 2 ≠ w.heap.size := by omega
  have m0 : w.heap.size ≠ b := by omega
  have m1 : w.heap.size ≠ b + 1 := by omega
  have m2 : w.heap.size ≠ b + 2 := by omega
  go_region
  go_wp2
  refine HK.out _ _ _ ?_
  obtain ⟨Wf, hWf, hf0, hf1, hf2, hf3⟩ := catch_fin (a := a) (c := c) (by omega) hba kx kq kr
  rw [← hWf]
  clear HK y0 y1 y2 y3 y4 v0 v1 v2 v3 v4 q0 r0 q1 r1 g0 g1 n0 n1 n2 m0 m1 m2
  refine ⟨rfl, .panicking [{ v := .iface 77 (.agg #[.int .i64 a, .int .i64 c]), recovered := true }], ?_, .tuple #[], ?_, ?_⟩
  · with_reducible rfl
  · simp [results, Try.results46, go_sem]
  · refine ⟨rfl, rfl, ?_, ?_, ?_, ?_⟩
    · exact hf0
    · exact hf1
    · exact hf2
    · exact hf3.drew

end Go.Proofs.Ythbpkmmnoeikoaa
