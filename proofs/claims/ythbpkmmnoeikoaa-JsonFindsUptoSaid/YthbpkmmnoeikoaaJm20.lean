/-
  Several texts in one, each with its own head below. Conditions: as each says.
-/
import Derived.Test.YthbpkmmnoeikoaaJm19
import Derived.Test.YthbpkmmnoeikoaaJm11
import Derived.Test.YthbpkmmnoeikoaaJm10
import Derived.Test.YthbpkmmnoeikoaaJm08
/-
  json.Parse: the thing of a text, or where it is wrong. Condition: a text of at most 90000 bytes.
-/
namespace Go.Proofs.Ythbpkmmnoeikoaa
open Go Go.RowKit
set_option linter.unusedVariables false
set_option linter.unusedSimpArgs false

theorem four_blk {w : World} {o0 o1 o2 o3 : Obj} : ((((w.alloc o0).alloc o1).alloc o2).alloc o3).heap[w.heap.size]? = some o0 ∧ ((((w.alloc o0).alloc o1).alloc o2).alloc o3).heap[w.heap.size + 1]? = some o1 ∧ ((((w.alloc o0).alloc o1).alloc o2).alloc o3).heap[w.heap.size + 2]? = some o2 ∧
    ((((w.alloc o0).alloc o1).alloc o2).alloc o3).heap[w.heap.size + 3]? = some o3 ∧ Below w.heap.size w ((((w.alloc o0).alloc o1).alloc o2).alloc o3) ∧ ((((w.alloc o0).alloc o1).alloc o2).alloc o3).heap.size = w.heap.size + 4 := by
  obtain ⟨h0, h1, h2, hb⟩ := three_blk (w := w) (o0 := o0) (o1 := o1) (o2 := o2)
  have e3 : (((w.alloc o0).alloc o1).alloc o2).heap.size = w.heap.size + 3 := by simp
  generalize ((w.alloc o0).alloc o1).alloc o2 = W at *
  have up : ∀ b o, W.heap[b]? = some o → (W.alloc o3).heap[b]? = some o := fun b o h => (Below.heap_alloc _ _ _ (Array.getElem?_eq_some_iff.1 h).1).trans h
  refine ⟨up _ _ h0, up _ _ h1, up _ _ h2, ?_, hb.alloc (by omega) _, by simp [e3]⟩
  have := heap_alloc_new W o3
  rwa [e3] at this
def zJson : Value := .agg #[.int .i64 0, .int .i64 0, .string ⟨#[]⟩, .slice none 0 0, .slice none 0 0]

/-- a thing is laid into the result -/
theorem pa_store {w2 : World} {B : Nat} {s : ByteArray} {t2 : Tk.Tok} {d : Int} {u0 u1 u2 u3 u4 c1 c2 : Value} (k0 : w2.heap[B]? = some (.cells #[u0, u1, u2, u3, u4] 41 (0, 0))) (k1 : w2.heap[B + 1]? = some (.cells #[c1] 3 (0, 0)))
    (k2 : w2.heap[B + 2]? = some (.cells #[c2] 27 (0, 0))) (hr2 : RdC w2 (B + 3) s t2 d) (v0 v1 v2 v3 v4 : Value) :
    ∃ w3, w3 = ((((w2.setCell ⟨B, 0, none⟩ v0).setCell ⟨B, 1, none⟩ v1).setCell ⟨B, 2, none⟩ v2).setCell ⟨B, 3, none⟩ v3).setCell ⟨B, 4, none⟩ v4 ∧ w3.heap[B]? = some (.cells #[v0, v1, v2, v3, v4] 41 (0, 0)) ∧ w3.heap[B + 1]? = some (.cells #[c1] 3 (0, 0)) ∧
      w3.heap[B + 2]? = some (.cells #[c2] 27 (0, 0)) ∧ RdC w3 (B + 3) s t2 d ∧ Below B w2 w3 ∧ w3.heap.size = w2.heap.size ∧ ∀ b, B < b → w3.heap[b]? = w2.heap[b]? := by
  have ho : ∀ b, B < b → (((((w2.setCell ⟨B, 0, none⟩ v0).setCell ⟨B, 1, none⟩ v1).setCell ⟨B, 2, none⟩ v2).setCell ⟨B, 3, none⟩ v3).setCell ⟨B, 4, none⟩ v4).heap[b]? = w2.heap[b]? := fun b hb =>
    (heap_setCell_other _ ⟨B, 4, none⟩ b _ (show b ≠ B by omega)).trans ((heap_setCell_other _ ⟨B, 3, none⟩ b _ (show b ≠ B by omega)).trans ((heap_setCell_other _ ⟨B, 2, none⟩ b _ (show b ≠ B by omega)).trans ((heap_setCell_other _ ⟨B, 1, none⟩ b _ (show b ≠ B by omega)).trans (heap_setCell_other _ ⟨B, 0, none⟩ b _ (show b ≠ B by omega)))))
  exact ⟨_, rfl, row_set (row_set (row_set (row_set (row_set k0 0 _) 1 _) 2 _) 3 _) 4 _, (ho _ (by omega)).trans k1, (ho _ (by omega)).trans k2, (ho _ (by omega)).trans hr2, tok_below5 w2 B _ _ _ _ _, by simp [World.setCell], ho⟩
theorem pa_fin {w3 : World} {B : Nat} {v0 v1 v2 v3 v4 c1 c2 : Value} (k0 : w3.heap[B]? = some (.cells #[v0, v1, v2, v3, v4] 41 (0, 0))) (k1 : w3.heap[B + 1]? = some (.cells #[c1] 3 (0, 0)))
    (k2 : w3.heap[B + 2]? = some (.cells #[c2] 27 (0, 0))) (n e : Value) :
    ∃ w4, w4 = ((((((w3.setCell ⟨B, 0, none⟩ v0).setCell ⟨B, 1, none⟩ v1).setCell ⟨B, 2, none⟩ v2).setCell ⟨B, 3, none⟩ v3).setCell ⟨B, 4, none⟩ v4).setCell ⟨B + 1, 0, none⟩ n).setCell ⟨B + 2, 0, none⟩ e ∧ w4.heap[B]? = some (.cells #[v0, v1, v2, v3, v4] 41 (0, 0)) ∧ w4.heap[B + 1]? = some (.cells #[n] 3 (0, 0)) ∧
      w4.heap[B + 2]? = some (.cells #[e] 27 (0, 0)) ∧ Below B w3 w4 ∧ w4.heap.size = w3.heap.size ∧ ∀ b, B + 2 < b → w4.heap[b]? = w3.heap[b]? := by
  have e1 : B ≠ B + 1 := by omega
  have e2 : B ≠ B + 2 := by omega
  refine ⟨_, rfl, ?_, ?_, ?_, ?_, by simp [World.setCell], fun b hb => ?_⟩
  · exact row_other (row_other (row_set (row_set (row_set (row_set (row_set k0 0 _) 1 _) 2 _) 3 _) 4 _) (show B + 1 ≠ B by omega) 0 _) (show B + 2 ≠ B by omega) 0 _
  · exact row_other (row_set (row_other (row_other (row_other (row_other (row_other k1 e1 0 _) e1 1 _) e1 2 _) e1 3 _) e1 4 _) 0 _) (show B + 2 ≠ B + 1 by omega) 0 _
  · exact row_set (row_other (row_other (row_other (row_other (row_other (row_other k2 e2 0 _) e2 1 _) e2 2 _) e2 3 _) e2 4 _) (show B + 1 ≠ B + 2 by omega) 0 _) 0 _
  · exact (((tok_below5 w3 B _ _ _ _ _)).setCell (p := ⟨B + 1, 0, none⟩) (show B ≤ B + 1 by omega) _).setCell (p := ⟨B + 2, 0, none⟩) (show B ≤ B + 2 by omega) _
  · exact (heap_setCell_other _ ⟨B + 2, 0, none⟩ b _ (show b ≠ B + 2 by omega)).trans ((heap_setCell_other _ ⟨B + 1, 0, none⟩ b _ (show b ≠ B + 1 by omega)).trans ((heap_setCell_other _ ⟨B, 4, none⟩ b _ (show b ≠ B by omega)).trans ((heap_setCell_other _ ⟨B, 3, none⟩ b _ (show b ≠ B by omega)).trans ((heap_setCell_other _ ⟨B, 2, none⟩ b _ (show b ≠ B by omega)).trans ((heap_setCell_other _ ⟨B, 1, none⟩ b _ (show b ≠ B by omega)).trans (heap_setCell_other _ ⟨B, 0, none⟩ b _ (show b ≠ B by omega)))))))

/-- what Parse comes to -/
def PaPost (s : ByteArray) (w : World) (r : Js.Re Js.J) (e : Ending) (w' : World) : Prop :=
  Below w.heap.size w w' ∧ ((∃ j v k, r = .ok j ∧ e = .returned (.tuple #[v, .int .i64 (s.size : Int), .int .i64 0]) ∧ JVn k (fun b => w.heap.size ≤ b ∧ b < w'.heap.size) w' v j) ∨ (∃ p, r = .error (some p) ∧ e = .returned (.tuple #[zJson, .int .i64 (p.1 : Int), .int .i64 p.2])))

set_option maxRecDepth 100000 in
set_option maxHeartbeats 2000000 in
theorem jparse_any (s : ByteArray) (d : Int) (w : World) (hs : s.size ≤ 90000) (hd : d ≤ 1000000) (hd2 : -9223372036854775808 ≤ d) :
    Calls Try.prog 25 #[.string s, .int .i64 d] w (PaPost s w (Js.parse s.data.toList d)) := by
  have hmf : ∀ (fn : Fn) (first cap : Array Value) (w : World), (Instr.makeFunc fn first cap).run Try.prog w = .ok (.func fn first cap) w := fun _ _ _ _ => rfl
  obtain ⟨hx, hq, hr, hrd, hb, hsz⟩ := four_blk (w := w) (o0 := .cells #[.int .i64 0, .int .i64 0, .string ⟨#[]⟩, .slice none 0 0, .slice none 0 0] 41) (o1 := .cells #[.int .i64 0] 3) (o2 := .cells #[.int .i64 0] 27)
    (o3 := .cells #[.string s, .int .i64 0, .int .i64 0, .int .i64 0, .string ⟨#[]⟩, .int .i64 0, .int .i64 d] 81)
  have hrc : RdC _ (w.heap.size + 3) s Tk.zero d := hrd
  obtain ⟨R, hR⟩ : ∃ R, R = Js.parse s.data.toList d := ⟨_, rfl⟩
  rw [← hR]
  unfold Js.parse at hR
  have HR := Lib.hid hR
  clear hR hrd
  go_enter_defers Try.func25, Try.ntmps25
  go_wp2_with fail
  simp only [Nat.add_assoc, Nat.reduceAdd]
  generalize (((w.alloc (.cells #[.int .i64 0, .int .i64 0, .string ⟨#[]⟩, .slice none 0 0, .slice none 0 0] 41)).alloc (.cells #[.int .i64 0] 3)).alloc (.cells #[.int .i64 0] 27)).alloc (.cells #[.string s, .int .i64 0, .int .i64 0, .int .i64 0, .string ⟨#[]⟩, .int .i64 0, .int .i64 d] 81) = W at *
  refine (jnext_post s (w.heap.size + 3) Tk.zero d W (by omega) (Nat.zero_le _) hrc).mono ?_
  rintro e w1 ⟨hg1, ⟨t1, hx1, rfl, hr1⟩ | ⟨p, hx1, rfl⟩⟩
  case inr =>
    have hq2 := HR.out
    rw [hx1] at hq2
    dsimp only at hq2
    have k0 := (hg1.block w.heap.size (by omega) (by simp)).trans hx
    have k1 := (hg1.block (w.heap.size + 1) (by omega) (by simp)).trans hq
    have k2 := (hg1.block (w.heap.size + 2) (by omega) (by simp)).trans hr
    have hb1 := hb.grown hg1 (by omega) (fun j hj => by cases hj; omega)
    refine leaves_cons (f := 46) (args := #[.pointer (some ⟨w.heap.size, 0, none⟩), .pointer (some ⟨w.heap.size + 1, 0, none⟩), .pointer (some ⟨w.heap.size + 2, 0, none⟩)]) (by simp) (by simp [go_sem]) ?_
    refine (catch_wrong w.heap.size (p.1 : Int) p.2 w1 (.int .i64 0) (.int .i64 0) (.string ⟨#[]⟩) (.slice none 0 0) (.slice none 0 0) k0 k1 k2).mono ?_
    rintro e u' w'' ⟨rfl, rfl, f0, f1, f2, fb⟩
    obtain ⟨z0, z1, z2, z3, z4⟩ := tok_cells f0
    have y1 : w''.cell? ⟨w.heap.size + 1, 0, none⟩ = _ := (cell_of_row _ _ 0 _ _ (0, 0) f1).trans rfl
    have y2 : w''.cell? ⟨w.heap.size + 2, 0, none⟩ = _ := (cell_of_row _ _ 0 _ _ (0, 0) f2).trans rfl
    exact ⟨.tuple #[zJson, .int .i64 (p.1 : Int), .int .i64 p.2], by simp [results, Try.results25, go_sem, zJson, z0, z1, z2, z3, z4, y1, y2], hb1.trans fb, .inr ⟨_, hq2, rfl⟩⟩
  have ht1 := (Js.nx_wf hx1 (Nat.zero_le _)).1
  have hq2 := HR.out
  rw [hx1] at hq2
  dsimp only at hq2
  have hFu := Js.thing_fu s.data.toList (d.toNat + 1) d t1 (by omega) ht1
  have hth := jthing_any s hs (d.toNat + 1) d hd hd2 (w.heap.size + 3) t1 w1 hr1 (by rw [← len_data]; exact ht1) hFu
  have hb1 := hb.grown hg1 (by omega) (fun j hj => by cases hj; omega)
  have k0 := (hg1.block w.heap.size (by omega) (by simp)).trans hx
  have k1 := (hg1.block (w.heap.size + 1) (by omega) (by simp)).trans hq
  have k2 := (hg1.block (w.heap.size + 2) (by omega) (by simp)).trans hr
  have hs1 := hg1.size
  have HQ2 := Lib.hid hq2
  clear hq2 HR hx hq hr hrc
  generalize Js.thing (d.toNat + 1) s.data.toList d t1 = T at *
  go_wp2_with fail
  refine hth.mono ?_
  rintro e w2 ⟨hg2, ⟨j, t2, rfl, v, k, rfl, hr2, hj⟩ | ⟨p, rfl, rfl⟩⟩
  case inr =>
    have hb2 := hb1.grown hg2 (by omega) (fun j hj => by cases hj; omega)
    have k0 := (hg2.block w.heap.size (by omega) (by simp)).trans k0
    have k1 := (hg2.block (w.heap.size + 1) (by omega) (by simp)).trans k1
    have k2 := (hg2.block (w.heap.size + 2) (by omega) (by simp)).trans k2
    refine leaves_cons (f := 46) (args := #[.pointer (some ⟨w.heap.size, 0, none⟩), .pointer (some ⟨w.heap.size + 1, 0, none⟩), .pointer (some ⟨w.heap.size + 2, 0, none⟩)]) (by simp) (by simp [go_sem]) ?_
    refine (catch_wrong w.heap.size (p.1 : Int) p.2 w2 (.int .i64 0) (.int .i64 0) (.string ⟨#[]⟩) (.slice none 0 0) (.slice none 0 0) k0 k1 k2).mono ?_
    rintro e u' w'' ⟨rfl, rfl, f0, f1, f2, fb⟩
    obtain ⟨z0, z1, z2, z3, z4⟩ := tok_cells f0
    have y1 : w''.cell? ⟨w.heap.size + 1, 0, none⟩ = _ := (cell_of_row _ _ 0 _ _ (0, 0) f1).trans rfl
    have y2 : w''.cell? ⟨w.heap.size + 2, 0, none⟩ = _ := (cell_of_row _ _ 0 _ _ (0, 0) f2).trans rfl
    exact ⟨.tuple #[zJson, .int .i64 (p.1 : Int), .int .i64 p.2], by simp [results, Try.results25, go_sem, zJson, z0, z1, z2, z3, z4, y1, y2], hb2.trans fb, .inr ⟨_, HQ2.out, rfl⟩⟩
  have hb2 := hb1.grown hg2 (by omega) (fun j hj => by cases hj; omega)
  have k0 := (hg2.block w.heap.size (by omega) (by simp)).trans k0
  have k1 := (hg2.block (w.heap.size + 1) (by omega) (by simp)).trans k1
  have k2 := (hg2.block (w.heap.size + 2) (by omega) (by simp)).trans k2
  have hs2 := hg2.size
  have hq2 := HQ2.out
  dsimp only at hq2
  obtain ⟨a, b, x, p1, n1, q1, p2, n2, q2, rfl⟩ := hj.form2
  obtain ⟨y0, y1, y2, y3, y4⟩ := tok_cells k0
  obtain ⟨v0, v1, v2, v3, v4⟩ := tok_frozen k0
  obtain ⟨w3, hw3, l0, l1, l2, hr3, hb3, hs3, ho3⟩ := pa_store k0 k1 k2 hr2 (.int .i64 a) (.int .i64 b) (.string x) (.slice p1 n1 q1) (.slice p2 n2 q2)
  have hb3' := hb2.trans hb3
  have HQ3 := Lib.hid hq2
  have HJ := Lib.hid hj
  have hj3 : JVn k (fun b => w1.heap.size ≤ b ∧ b < w2.heap.size) w3 (.agg #[.int .i64 a, .int .i64 b, .string x, .slice p1 n1 q1, .slice p2 n2 q2]) j := JVn.keep (fun _ h => h) (fun c hc => ho3 c (by omega)) _ _ _ hj
  clear hq2 HQ2 hth hFu hj
  obtain ⟨c0, c1, c2, c3, c4, c5', c6⟩ := rd_cells hr3
  by_cases h0 : t2.kind = 0
  · have t0 : ((t2.kind : Int) == 0) = true := by simp [h0]
    have hm := jmust_any s (w.heap.size + 3) t2 d true 2 w3 hr3
    have H0 := Lib.hid h0
    clear h0
    rw [hw3] at hm c0 c1 c2 c3 c4 c5' c6
    go_wp2_with fail
    rw [← hw3]
    rw [← hw3] at hm
    refine hm.mono ?_
    rintro e wx ⟨hwx, rfl⟩
    subst hwx
    clear hm hw3 y0 y1 y2 y3 y4 v0 v1 v2 v3 v4 c0 c1 c2 c3 c4 c5' c6
    obtain ⟨y0, y1, y2, y3, y4⟩ := tok_cells l0
    obtain ⟨v0, v1, v2, v3, v4⟩ := tok_frozen l0
    have a0 : w3.cell? ⟨w.heap.size + 1, 0, none⟩ = some (.int .i64 0) := (cell_of_row _ _ 0 _ _ (0, 0) l1).trans rfl
    have a1 : w3.frozen? ⟨w.heap.size + 1, 0, none⟩ = false := by simp [World.frozen?, l1]
    have b0 : w3.cell? ⟨w.heap.size + 2, 0, none⟩ = some (.int .i64 0) := (cell_of_row _ _ 0 _ _ (0, 0) l2).trans rfl
    have b1 : w3.frozen? ⟨w.heap.size + 2, 0, none⟩ = false := by simp [World.frozen?, l2]
    have hq2 := HQ3.out
    rw [if_pos H0.out] at hq2
    have HQ4 := Lib.hid hq2
    clear hq2
    go_wp2_with fail
    obtain ⟨w4, hw4, m0, m1, m2, hb4, hs4, ho4⟩ := pa_fin l0 l1 l2 (.int .i64 (s.size : Int)) (.int .i64 0)
    rw [← hw4]
    refine leaves_cons (f := 46) (args := #[.pointer (some ⟨w.heap.size, 0, none⟩), .pointer (some ⟨w.heap.size + 1, 0, none⟩), .pointer (some ⟨w.heap.size + 2, 0, none⟩)]) (by simp) (by simp [go_sem]) ?_
    refine (catch_idle ⟨w.heap.size, 0, none⟩ ⟨w.heap.size + 1, 0, none⟩ ⟨w.heap.size + 2, 0, none⟩ w4).mono ?_
    rintro e u' w'' ⟨rfl, rfl, rfl⟩
    obtain ⟨z0, z1, z2, z3, z4⟩ := tok_cells m0
    have y5 : w''.cell? ⟨w.heap.size + 1, 0, none⟩ = _ := (cell_of_row _ _ 0 _ _ (0, 0) m1).trans rfl
    have y6 : w''.cell? ⟨w.heap.size + 2, 0, none⟩ = _ := (cell_of_row _ _ 0 _ _ (0, 0) m2).trans rfl
    refine ⟨.tuple #[.agg #[.int .i64 a, .int .i64 b, .string x, .slice p1 n1 q1, .slice p2 n2 q2], .int .i64 (s.size : Int), .int .i64 0], by simp [results, Try.results25, go_sem, z0, z1, z2, z3, z4, y5, y6], hb3'.trans hb4, .inl ⟨j, _, k, HQ4.out, rfl, ?_⟩⟩
    exact JVn.keep (fun c hc => ⟨by omega, by omega⟩) (fun c hc => ho4 c (by omega)) _ _ _ hj3
  · have t0 : ((t2.kind : Int) == 0) = false := by simp; omega
    have hm := jmust_any s (w.heap.size + 3) t2 d false 2 w3 hr3
    have H0 := Lib.hid h0
    clear h0
    rw [hw3] at hm c0 c1 c2 c3 c4 c5' c6
    go_wp2_with fail
    refine hm.mono ?_
    rintro e wx ⟨rfl, rfl⟩
    have hq2 := HQ3.out
    rw [if_neg H0.out] at hq2
    rw [← hw3]
    have k0 := l0
    have k1 := l1
    have k2 := l2
    refine leaves_cons (f := 46) (args := #[.pointer (some ⟨w.heap.size, 0, none⟩), .pointer (some ⟨w.heap.size + 1, 0, none⟩), .pointer (some ⟨w.heap.size + 2, 0, none⟩)]) (by simp) (by simp [go_sem]) ?_
    refine (catch_wrong w.heap.size (t2.at' : Int) 2 w3 (.int .i64 a) (.int .i64 b) (.string x) (.slice p1 n1 q1) (.slice p2 n2 q2) k0 k1 k2).mono ?_
    rintro e u' w'' ⟨rfl, rfl, f0, f1, f2, fb⟩
    obtain ⟨z0, z1, z2, z3, z4⟩ := tok_cells f0
    have y1 : w''.cell? ⟨w.heap.size + 1, 0, none⟩ = _ := (cell_of_row _ _ 0 _ _ (0, 0) f1).trans rfl
    have y2 : w''.cell? ⟨w.heap.size + 2, 0, none⟩ = _ := (cell_of_row _ _ 0 _ _ (0, 0) f2).trans rfl
    exact ⟨.tuple #[zJson, .int .i64 (t2.at' : Int), .int .i64 2], by simp [results, Try.results25, go_sem, zJson, z0, z1, z2, z3, z4, y1, y2], hb3'.trans fb, .inr ⟨_, hq2, rfl⟩⟩

end Go.Proofs.Ythbpkmmnoeikoaa

/-
  No row of a thing that is read is longer than its text and two. No program text.
-/
namespace Go.Proofs.Ythbpkmmnoeikoaa
set_option linter.unusedVariables false
set_option linter.unusedSimpArgs false

theorem rowG_inv {σ : Type} {l : List UInt8} {one : σ → Tk.Tok → Js.Re (σ × Tk.Tok)} (P : Nat → σ → Prop) (hP : ∀ m q t p, P m q → one q t = .ok p → P (m + 1) p.1) :
    ∀ (n m : Nat) (q : σ) (t : Tk.Tok) (p : σ × Tk.Tok), Js.rowG l one n q t = .ok p → P m q → ∃ m', m' ≤ m + n ∧ P m' p.1
  | 0, _, _, _, _, h, _ => by cases h
  | n + 1, m, q, t, p, h, hq => by
    rw [Js.rowG] at h
    cases h1 : one q t with
    | error e => rw [h1] at h; cases h
    | ok r =>
      rw [h1] at h
      dsimp only at h
      have hr := hP m q t r hq h1
      by_cases h6 : r.2.kind = 6
      · rw [if_pos h6] at h
        cases h3 : Js.nx l r.2 with
        | error e => rw [h3] at h; cases h
        | ok t3 =>
          rw [h3] at h
          obtain ⟨m', h4, h5⟩ := rowG_inv P hP n (m + 1) r.1 t3 p h hr
          exact ⟨m', by omega, h5⟩
      · rw [if_neg h6] at h
        cases h
        exact ⟨m + 1, by omega, hr⟩
theorem row_inv {σ : Type} {l : List UInt8} {one : σ → Tk.Tok → Js.Re (σ × Tk.Tok)} (P : Nat → σ → Prop) (hP : ∀ m q t p, P m q → one q t = .ok p → P (m + 1) p.1) {close : Nat} {d : Int} {q : σ} {t : Tk.Tok} {p : σ × Tk.Tok} (h : Js.row l one close d q t = .ok p) (hq : P 0 q) :
    ∃ m, m ≤ l.length + 2 ∧ P m p.1 := by
  unfold Js.row at h
  split at h
  · cases h
  · cases h1 : Js.nx l t with
    | error e => rw [h1] at h; cases h
    | ok t1 =>
      rw [h1] at h
      dsimp only at h
      by_cases hc : t1.kind = close
      · rw [if_pos hc] at h
        dsimp only at h
        rw [if_pos hc] at h
        cases h
        exact ⟨0, by omega, hq⟩
      · rw [if_neg hc] at h
        cases h2 : Js.rowG l one (l.length + 2) q t1 with
        | error e => rw [h2] at h; cases h
        | ok r =>
          rw [h2] at h
          dsimp only at h
          obtain ⟨m', h4, h5⟩ := rowG_inv P hP _ 0 q t1 r h2 hq
          by_cases hk : r.2.kind = close
          · rw [if_pos hk] at h
            cases h
            exact ⟨m', by omega, h5⟩
          · rw [if_neg hk] at h; cases h
def PB (N : Nat) (m : Nat) (q : Js.St) : Prop := q.2.length = m ∧ q.1.length ≤ m ∧ ∀ i (h : i < q.2.length), Bd N q.2[i]
theorem pb_snoc {N m : Nat} {q : Js.St} {ns : List (List UInt8)} {x : Js.J} (h : PB N m q) (hx : Bd N x) (hn : ns.length ≤ m + 1) : PB N (m + 1) (ns, q.2 ++ [x]) := by
  obtain ⟨h1, h2, h3⟩ := h
  refine ⟨by simp [h1], hn, fun i hi => ?_⟩
  by_cases hl : i < q.2.length
  · rw [List.getElem_append_left hl]; exact h3 i hl
  · have : i = q.2.length := by simp at hi; omega
    subst this
    rw [List.getElem_append_right (Nat.le_refl _)]
    simpa using hx
theorem pb_nil (N : Nat) : PB N 0 ([], []) := ⟨rfl, Nat.le_refl _, fun i h => by simp at h⟩
theorem fin_ok {l : List UInt8} {x : Js.J} {t : Tk.Tok} {p : Js.J × Tk.Tok} (h : Js.fin l x t = .ok p) : p.1 = x := by
  unfold Js.fin at h
  cases h1 : Js.nx l t with
  | error e => rw [h1] at h; cases h
  | ok t1 => rw [h1] at h; cases h; rfl
theorem bd_leaf (N : Nat) (kd m : Int) (s : List UInt8) : Bd N (.mk kd m s [] []) := .mk _ _ _ _ _ (Nat.zero_le _) (Nat.zero_le _) (fun i h => by simp at h)
theorem thing_bd (l : List UInt8) : ∀ (n : Nat) (d : Int) (t : Tk.Tok) (p : Js.J × Tk.Tok), Js.thing n l d t = .ok p → Bd (l.length + 2) p.1
  | 0, _, _, _, h => by cases h
  | n + 1, d, t, p, h => by
    have ih := thing_bd l n (d - 1)
    rw [Js.thing] at h
    dsimp only at h
    split at h
    · cases h2 : Js.row l (Js.oneL (Js.thing n l (d - 1))) 2 d ([], []) t with
      | error e => rw [h2] at h; cases h
      | ok r =>
        rw [h2] at h
        dsimp only at h
        obtain ⟨m, hm, h3, h4, h5⟩ := row_inv (PB (l.length + 2)) (fun m q t p hq ho => by
          unfold Js.oneL at ho
          cases h1 : Js.thing n l (d - 1) t with
          | error e => rw [h1] at ho; cases ho
          | ok y => rw [h1] at ho; cases ho; exact pb_snoc hq (ih t y h1) (by have := hq.2.1; omega)) h2 (pb_nil _)
        rw [fin_ok h]
        exact .mk _ _ _ _ _ (by omega) (by omega) h5
    · split at h
      · cases h2 : Js.row l (Js.oneO l (Js.thing n l (d - 1))) 4 d ([], []) t with
        | error e => rw [h2] at h; cases h
        | ok r =>
          rw [h2] at h
          dsimp only at h
          obtain ⟨m, hm, h3, h4, h5⟩ := row_inv (PB (l.length + 2)) (fun m q t p hq ho => by
            unfold Js.oneO at ho
            cases hk : Js.key l q.1 t with
            | error e => rw [hk] at ho; cases ho
            | ok k =>
              rw [hk] at ho
              dsimp only at ho
              have hkl : k.1.length = q.1.length + 1 := by
                unfold Js.key at hk
                split at hk
                · cases hk
                · split at hk
                  · cases hk
                  · cases h1 : Js.nx l t with
                    | error e => rw [h1] at hk; cases hk
                    | ok t1 =>
                      rw [h1] at hk
                      dsimp only at hk
                      split at hk
                      · cases hk
                      · cases h2 : Js.nx l t1 with
                        | error e => rw [h2] at hk; cases hk
                        | ok t2 => rw [h2] at hk; cases hk; simp
              cases h1 : Js.thing n l (d - 1) k.2 with
              | error e => rw [h1] at ho; cases ho
              | ok y => rw [h1] at ho; cases ho; exact pb_snoc hq (ih k.2 y h1) (by have := hq.2.1; omega)) h2 (pb_nil _)
          rw [fin_ok h]
          exact .mk _ _ _ _ _ (by omega) (by omega) h5
      · split at h
        · rw [fin_ok h]; exact bd_leaf _ _ _ _
        · split at h
          · rw [fin_ok h]; exact bd_leaf _ _ _ _
          · split at h
            · rw [fin_ok h]; exact bd_leaf _ _ _ _
            · cases h
theorem parse_bd {l : List UInt8} {d : Int} {j : Js.J} (h : Js.parse l d = .ok j) : Bd (l.length + 2) j := by
  unfold Js.parse at h
  cases h1 : Js.nx l Tk.zero with
  | error e => rw [h1] at h; cases h
  | ok t =>
    rw [h1] at h
    dsimp only at h
    cases h2 : Js.thing (d.toNat + 1) l d t with
    | error e => rw [h2] at h; cases h
    | ok p =>
      rw [h2] at h
      dsimp only at h
      split at h
      · cases h; exact thing_bd l _ d t p h2
      · cases h

end Go.Proofs.Ythbpkmmnoeikoaa

/-
  slices.Equal at two rows of names. Condition: at most a million names.
-/
namespace Go.Proofs.Ythbpkmmnoeikoaa
open Go Go.RowKit
set_option linter.unusedVariables false
set_option linter.unusedSimpArgs false

def EqS (n : Nat) (xs ys : List (List UInt8)) (w0 : World) (i : Value) (w : World) : Prop := ∃ k : Nat, k ≤ n ∧ i = .int .i64 (k : Int) ∧ Below w0.heap.size w0 w ∧ Hid (∀ m (h : m < xs.length) (h' : m < ys.length), m < k → xs[m] = ys[m])

set_option maxRecDepth 100000 in
set_option maxHeartbeats 1000000 in
theorem sequal_any (S1 S2 : Nat → Prop) (v1 v2 : Value) (xs cs : List (List UInt8)) (W : World) (h1 : NamesV S1 W v1 xs) (h2 : NamesV S2 W v2 cs) (hS1 : ∀ b, S1 b → b < W.heap.size) (hS2 : ∀ b, S2 b → b < W.heap.size) (hN : xs.length ≤ 1000000) (hM : cs.length ≤ 1000000) :
    Calls Try.prog 60 #[v1, v2] W fun e W' => e = .returned (.bool (decide (xs = cs))) ∧ Below W.heap.size W W' := by
  obtain ⟨p1, c1, rfl, hn1⟩ := h1
  obtain ⟨p2, c2, rfl, hn2⟩ := h2
  obtain ⟨r, hr0⟩ : ∃ r, r = decide (xs = cs) := ⟨_, rfl⟩
  rw [← hr0]
  have HR := Lib.hid hr0
  have HN1 := Lib.hid hn1
  have HN2 := Lib.hid hn2
  clear hr0 hn1 hn2
  by_cases hl : xs.length = cs.length
  · have t0 : ((xs.length : Int) != (cs.length : Int)) = false := by simp [hl]
    have HL := Lib.hid hl
    have key : ∀ x y : List UInt8, (!((bs x).toList == (bs y).toList)) = !decide (x = y) := fun x y => by
      rw [ByteArray.toList_eq, ByteArray.toList_eq]
      show (!(x == y)) = _
      by_cases h : x = y
      · rw [decide_eq_true h, h]; simp
      · rw [decide_eq_false h]; simp [h]
    have KEY := Lib.hid key
    clear key hl
    go_enter Try.func60, Try.ntmps60
    go_wp2_with fail
    go_loopw [13] (EqS xs.length xs cs W) (fun i _ => xs.length - (intOf i).toNat)
    case atStart => exact ⟨0, Nat.zero_le _, by go_num, Below.refl _ _, fun m h h' h2 => absurd h2 (by omega)⟩
    case round =>
      obtain ⟨i, hi, rfl, hbl, HE⟩ := hrel
      by_cases hlt : i < xs.length
      · have tl : decide ((i : Int) < (xs.length : Int)) = true := decide_eq_true (by omega)
        have hlt2 : i < cs.length := by have := HL.out; omega
        have hlt3 : (i : Int) < (cs.length : Int) := by omega
        obtain ⟨e1, o1, rfl, hs1, hc1⟩ := HN1.out i hlt
        obtain ⟨e2, o2, rfl, hs2, hc2⟩ := HN2.out i hlt2
        have hc1 := cell_same (hbl.block e1 (hS1 e1 hs1)) hc1
        have hc2 := cell_same (hbl.block e2 (hS2 e2 hs2)) hc2
        have hk := KEY.out xs[i] cs[i]
        by_cases he : xs[i] = cs[i]
        · replace hk : (!((bs xs[i]).toList == (bs cs[i]).toList)) = false := by rw [decide_eq_true he] at hk; exact hk
          have HE2 := Lib.hid he
          clear he
          go_wp2
          go_region
          go_wp2
          go_roundw
          case rel => exact ⟨i + 1, by omega, by go_num, hbl.drew, fun m h h' h2 => by
            by_cases hm : m = i
            · subst hm; exact HE2.out
            · exact HE.out m h h' (by omega)⟩
          case measure => simp [intOf]; omega
        · replace hk : (!((bs xs[i]).toList == (bs cs[i]).toList)) = true := by rw [decide_eq_false he] at hk; exact hk
          have hrf : r = false := HR.out.trans (decide_eq_false (fun e => he (by subst e; rfl)))
          have HRF := Lib.hid hrf
          clear he hrf HR
          go_wp2
          go_region
          go_wp2
          exact bodyPost_ret (v := .bool false) (by simp [results, Try.results60, go_sem]) rfl ⟨by rw [HRF.out], hbl.drew⟩
      · obtain rfl : i = xs.length := by omega
        have tl : decide ((xs.length : Int) < (xs.length : Int)) = false := decide_eq_false (by omega)
        have hrt : r = true := HR.out.trans (decide_eq_true (List.ext_getElem HL.out (fun m h h' => HE.out m h h' h)))
        have HRT := Lib.hid hrt
        clear hrt HR
        go_wp2
        exact bodyPost_ret (v := .bool true) (by simp [results, Try.results60, go_sem]) rfl ⟨by rw [HRT.out], hbl⟩
  · have t0 : ((xs.length : Int) != (cs.length : Int)) = true := by simp; omega
    have hrf : r = false := HR.out.trans (decide_eq_false (fun e => hl (by rw [e])))
    have HRF := Lib.hid hrf
    clear hl hrf HR
    go_enter Try.func60, Try.ntmps60
    go_wp2_with fail
    go_ret
    exact ⟨by rw [HRF.out]; rfl, Below.refl _ _⟩

end Go.Proofs.Ythbpkmmnoeikoaa

/-
  json.Same of two values that read as things. Condition: no row of them is longer than a million.
-/
namespace Go.Proofs.Ythbpkmmnoeikoaa
open Go Go.RowKit
set_option linter.unusedVariables false
set_option linter.unusedSimpArgs false

def al2 (f : Js.J → Js.J → Bool) (xs ys : List Js.J) : Bool := decide (xs.length = ys.length ∧ ∀ i (h : i < xs.length) (h' : i < ys.length), f xs[i] ys[i] = true)
/-- the same thing? -/
def sm : Nat → Js.J → Js.J → Bool
  | 0, _, _ => false
  | k + 1, .mk kd n s ns xs, .mk kd' n' s' ns' xs' => decide (kd = kd') && (decide (n = n') && (decide (s = s') && (decide (ns = ns') && al2 (sm k) xs xs')))
theorem sm_refl {S : Nat → Prop} {W : World} : ∀ (k : Nat) (v : Value) (j : Js.J), JVn k S W v j → sm k j j = true
  | 0, _, _, h => h.elim
  | k + 1, v, .mk kd n s ns xs, h => by
    obtain ⟨vn, vl, rfl, hn, ⟨p, c, rfl, hi⟩⟩ := h
    unfold sm
    have : al2 (sm k) xs xs = true := decide_eq_true ⟨rfl, fun i h h' => by
      obtain ⟨_, _, _, _, _, _, _, _, _, _, hr⟩ := hi i h
      exact sm_refl k _ _ hr⟩
    rw [this]
    simp
def SmOk (k : Nat) : Prop := ∀ (j1 j2 : Js.J) (v1 v2 : Value) (S1 S2 : Nat → Prop) (W : World), JVn k S1 W v1 j1 → JVn k S2 W v2 j2 → (∀ b, S1 b → b < W.heap.size) → (∀ b, S2 b → b < W.heap.size) → Bd 1000000 j1 → Bd 1000000 j2 →
    Calls Try.prog 31 #[v1, v2] W fun e W' => e = .returned (.bool (sm k j1 j2)) ∧ Below W.heap.size W W'
def SfR (k : Nat) (xs ys : List Js.J) (w0 : World) (i : Value) (w : World) : Prop := ∃ m : Nat, m ≤ xs.length ∧ i = .int .i64 (m : Int) ∧ Below w0.heap.size w0 w ∧ Hid (∀ a (h : a < xs.length) (h' : a < ys.length), a < m → sm k xs[a] ys[a] = true)

set_option maxRecDepth 100000 in
set_option maxHeartbeats 4000000 in
theorem jequalf_any (k : Nat) (IH : SmOk k) (S1 S2 : Nat → Prop) (v1 v2 : Value) (xs ys : List Js.J) (W : World) (hv1 : ItemsV (JVn k S1 W) S1 W v1 xs) (hv2 : ItemsV (JVn k S2 W) S2 W v2 ys) (hS1 : ∀ b, S1 b → b < W.heap.size) (hS2 : ∀ b, S2 b → b < W.heap.size) (hX : xs.length ≤ 1000000) (hY : ys.length ≤ 1000000)
    (hB1 : ∀ i (h : i < xs.length), Bd 1000000 xs[i]) (hB2 : ∀ i (h : i < ys.length), Bd 1000000 ys[i]) :
    Calls Try.prog 61 #[v1, v2, .func (.func 31) #[] #[]] W fun e W' => e = .returned (.bool (al2 (sm k) xs ys)) ∧ Below W.heap.size W W' := by
  obtain ⟨p1, c1, rfl, hi1⟩ := hv1
  obtain ⟨p2, c2, rfl, hi2⟩ := hv2
  have HI1 := Lib.hid hi1
  have HI2 := Lib.hid hi2
  have HB1 := Lib.hid hB1
  have HB2 := Lib.hid hB2
  have HC := Lib.hid (show SmOk k from IH)
  clear hi1 hi2 hB1 hB2 IH
  obtain ⟨A, hA⟩ : ∃ A, A = al2 (sm k) xs ys := ⟨_, rfl⟩
  rw [← hA]
  have HA := Lib.hid hA
  clear hA
  by_cases hl : xs.length = ys.length
  case neg =>
    have t0 : ((xs.length : Int) != (ys.length : Int)) = true := by simp; omega
    have hat : A = false := HA.out.trans (decide_eq_false (fun h => hl h.1))
    have HAT := Lib.hid hat
    clear hl hat HA
    go_enter Try.func61, Try.ntmps61
    go_wp2_with fail
    exact bodyPost_ret (v := .bool false) (by simp [results, Try.results61, go_sem]) rfl ⟨by rw [HAT.out], Below.refl _ _⟩
  have t0 : ((xs.length : Int) != (ys.length : Int)) = false := by simp [hl]
  have HL := Lib.hid hl
  clear hl
  go_enter Try.func61, Try.ntmps61
  go_wp2_with fail
  go_loopw [17] (SfR k xs ys W) (fun i _ => xs.length - (intOf i).toNat)
  case atStart => exact ⟨0, Nat.zero_le _, by go_num, Below.refl _ _, fun m h h' h2 => absurd h2 (by omega)⟩
  case round =>
    obtain ⟨i, hi, rfl, hbl, HK⟩ := hrel
    by_cases hlt : i < xs.length
    · have tl : decide ((i : Int) < (xs.length : Int)) = true := decide_eq_true (by omega)
      have hlt2 : i < ys.length := by have := HL.out; omega
      have hlt3 : (i : Int) < (ys.length : Int) := by omega
      obtain ⟨e1, o1, d0, d1, d2, d3, d4, rfl, hs1, ⟨g0, g1, g2, g3, g4⟩, hr1⟩ := HI1.out i hlt
      obtain ⟨u0, u1, u2, u3, u4, u5, u6, u7, u8, he⟩ := hr1.form2
      simp at he
      obtain ⟨rfl, rfl, rfl, rfl, rfl⟩ := he
      obtain ⟨e2, o2, f0, f1, f2, f3, f4, rfl, hs2, ⟨l0, l1, l2, l3, l4⟩, hr2⟩ := HI2.out i hlt2
      obtain ⟨z0, z1, z2, z3, z4, z5, z6, z7, z8, he⟩ := hr2.form2
      simp at he
      obtain ⟨rfl, rfl, rfl, rfl, rfl⟩ := he
      obtain ⟨hx, hy, hb2⟩ := two_box (w := wr) (o0 := .cells #[.int .i64 u0, .int .i64 u1, .string u2, .slice u3 u4 u5, .slice u6 u7 u8] 41) (o1 := .cells #[.int .i64 z0, .int .i64 z1, .string z2, .slice z3 z4 z5, .slice z6 z7 z8] 41)
      have hbx := (Below.refl _ wr).alloc (Nat.le_refl _) (.cells #[.int .i64 u0, .int .i64 u1, .string u2, .slice u3 u4 u5, .slice u6 u7 u8] 41)
      have q1 := hbl.block e1 (hS1 e1 hs1)
      have q2 := (hbx.block e2 (Nat.lt_of_lt_of_le (hS2 e2 hs2) hbl.size)).trans (hbl.block e2 (hS2 e2 hs2))
      have g0 := cell_same q1 g0
      have g1 := cell_same q1 g1
      have g2 := cell_same q1 g2
      have g3 := cell_same q1 g3
      have g4 := cell_same q1 g4
      have l0 := cell_same q2 l0
      have l1 := cell_same q2 l1
      have l2 := cell_same q2 l2
      have l3 := cell_same q2 l3
      have l4 := cell_same q2 l4
      obtain ⟨x0, x1, x2, x3, x4⟩ := tok_cells hx
      obtain ⟨y0, y1, y2, y3, y4⟩ := tok_cells hy
      have hbb := hbl.trans (hb2.mono hbl.size)
      have hcall := HC.out xs[i] ys[i] _ _ S1 S2 _ (hr1.below hS1 hbb) (hr2.below hS2 hbb) (fun b h => Nat.lt_of_lt_of_le (hS1 b h) hbb.size) (fun b h => Nat.lt_of_lt_of_le (hS2 b h) hbb.size) (HB1.out i hlt) (HB2.out i hlt2)
      clear q1 q2 hr1 hr2
      cases hrv : sm k xs[i] ys[i] with
      | false =>
        rw [hrv] at hcall
        have hat : A = false := HA.out.trans (decide_eq_false (fun h => by have := h.2 i hlt hlt2; rw [hrv] at this; cases this))
        have HAT := Lib.hid hat
        clear hrv hat HA
        go_wp2_with (go_at_call 31; (with_reducible refine hcall.mono ?_); rintro e w1 ⟨rfl, hb1⟩)
        exact bodyPost_ret (v := .bool false) (by simp [results, Try.results61, go_sem]) rfl ⟨by rw [HAT.out], hbb.trans (hb1.mono hbb.size)⟩
      | true =>
        rw [hrv] at hcall
        have HRV := Lib.hid hrv
        clear hrv
        go_wp2_with (go_at_call 31; (with_reducible refine hcall.mono ?_); rintro e w1 ⟨rfl, hb1⟩)
        go_roundw
        case rel => exact ⟨i + 1, by omega, by go_num, hbb.trans (hb1.mono hbb.size), fun m h h' h2 => by
          by_cases hm : m = i
          · subst hm; exact HRV.out
          · exact HK.out m h h' (by omega)⟩
        case measure => simp [intOf]; omega
    · obtain rfl : i = xs.length := by omega
      have tl : decide ((xs.length : Int) < (xs.length : Int)) = false := decide_eq_false (by omega)
      have hat : A = true := HA.out.trans (decide_eq_true ⟨HL.out, fun a h h' => HK.out a h h' h⟩)
      have HAT := Lib.hid hat
      clear hat HA
      go_wp2_with fail
      exact bodyPost_ret (v := .bool true) (by simp [results, Try.results61, go_sem]) rfl ⟨by rw [HAT.out], hbl⟩

set_option maxRecDepth 100000 in
set_option maxHeartbeats 4000000 in
theorem jsame_succ (k : Nat) (IH : SmOk k) : SmOk (k + 1) := by
  intro j1 j2 v1 v2 S1 S2 W h1 h2 hS1 hS2 hB1 hB2
  obtain ⟨kd, n, s, ns, xs⟩ := j1
  obtain ⟨kd', n', s', ns', xs'⟩ := j2
  obtain ⟨_, _, _, _, _, b1, b2, b3⟩ := hB1
  obtain ⟨_, _, _, _, _, b4, b5, b6⟩ := hB2
  obtain ⟨vn, vl, rfl, hn, hi⟩ := h1
  obtain ⟨vn', vl', rfl, hn', hi'⟩ := h2
  obtain ⟨p1, c1, hvn, _⟩ := id hn
  obtain ⟨p2, c2, hvl, _⟩ := id hi
  obtain ⟨p3, c3, hvn', _⟩ := id hn'
  obtain ⟨p4, c4, hvl', _⟩ := id hi'
  obtain ⟨hx, hy, hb⟩ := two_box (w := W) (o0 := .cells #[.int .i64 kd, .int .i64 n, .string (bs s), vn, vl] 41) (o1 := .cells #[.int .i64 kd', .int .i64 n', .string (bs s'), vn', vl'] 41)
  obtain ⟨A, hA⟩ : ∃ A, A = sm (k + 1) (.mk kd n s ns xs) (.mk kd' n' s' ns' xs') := ⟨_, rfl⟩
  rw [← hA]
  unfold sm at hA
  have HNM := Lib.hid (fun W' (hh : Below W.heap.size W W') => sequal_any S1 S2 vn vn' ns ns' W' (hn.keep (fun _ h => h) (fun b h => hh.block b (hS1 b h))) (hn'.keep (fun _ h => h) (fun b h => hh.block b (hS2 b h))) (fun b h => Nat.lt_of_lt_of_le (hS1 b h) hh.size) (fun b h => Nat.lt_of_lt_of_le (hS2 b h) hh.size) b1 b4)
  have HCF := Lib.hid (fun W' (hh : Below W.heap.size W W') => jequalf_any k IH S1 S2 vl vl' xs xs' W' (hi.keep (fun u x hu => hu.below hS1 hh) (fun _ h => h) (fun b h => hh.block b (hS1 b h))) (hi'.keep (fun u x hu => hu.below hS2 hh) (fun _ h => h) (fun b h => hh.block b (hS2 b h))) (fun b h => Nat.lt_of_lt_of_le (hS1 b h) hh.size) (fun b h => Nat.lt_of_lt_of_le (hS2 b h) hh.size) b2 b5 b3 b6)
  subst hvn hvl hvn' hvl'
  have key : ((bs s).toList == (bs s').toList) = decide (s = s') := by
    rw [ByteArray.toList_eq, ByteArray.toList_eq]
    show (s == s') = _
    by_cases h : s = s'
    · rw [decide_eq_true h, h]; simp
    · rw [decide_eq_false h]; simp [h]
  have HA := Lib.hid hA
  have KEY := Lib.hid key
  clear hn hi hn' hi' hA b3 b6 IH key
  by_cases hk : kd = kd'
  case neg =>
    have t0 : (kd == kd') = false := by simp [hk]
    have ha : A = false := by rw [HA.out, decide_eq_false hk]; rfl
    have HAF := Lib.hid ha
    clear hk ha
    go_enter Try.func31, Try.ntmps31
    go_wp2_with fail
    exact bodyPost_ret (v := .bool false) (by simp [results, Try.results31, go_sem]) rfl ⟨by rw [HAF.out], hb⟩
  have ha := HA.out
  rw [decide_eq_true hk, Bool.true_and] at ha
  have t0 : (kd == kd') = true := by simp [hk]
  clear hk HA
  by_cases hk : n = n'
  case neg =>
    have t1 : (n == n') = false := by simp [hk]
    rw [decide_eq_false hk, Bool.false_and] at ha
    have HAF := Lib.hid ha
    clear hk ha
    go_enter Try.func31, Try.ntmps31
    go_wp2_with fail
    exact bodyPost_ret (v := .bool false) (by simp [results, Try.results31, go_sem]) rfl ⟨by rw [HAF.out], hb⟩
  rw [decide_eq_true hk, Bool.true_and] at ha
  have t1 : (n == n') = true := by simp [hk]
  clear hk
  have t2 := KEY.out
  by_cases hk : s = s'
  case neg =>
    rw [decide_eq_false hk] at t2
    rw [decide_eq_false hk, Bool.false_and] at ha
    have HAF := Lib.hid ha
    clear hk ha
    go_enter Try.func31, Try.ntmps31
    go_wp2_with fail
    exact bodyPost_ret (v := .bool false) (by simp [results, Try.results31, go_sem]) rfl ⟨by rw [HAF.out], hb⟩
  rw [decide_eq_true hk] at t2
  rw [decide_eq_true hk, Bool.true_and] at ha
  clear hk
  have hcall := HNM.out _ hb
  cases hk : decide (ns = ns') with
  | false =>
    rw [hk] at hcall
    rw [hk, Bool.false_and] at ha
    have HAF := Lib.hid ha
    clear hk ha
    go_enter Try.func31, Try.ntmps31
    go_wp2_with (go_at_call 60; (with_reducible refine hcall.mono ?_); rintro e w1 ⟨rfl, hb1⟩)
    exact bodyPost_ret (v := .bool false) (by simp [results, Try.results31, go_sem]) rfl ⟨by rw [HAF.out], hb.trans (hb1.mono hb.size)⟩
  | true =>
    rw [hk] at hcall
    rw [hk, Bool.true_and] at ha
    have HAF := Lib.hid ha
    clear hk ha
    generalize al2 (sm k) xs xs' = B at *
    go_enter Try.func31, Try.ntmps31
    go_wp2_with (first
      | (go_at_call 60; (with_reducible refine hcall.mono ?_); rintro e w1 ⟨rfl, hb1⟩; have hb2 := hb.trans (hb1.mono hb.size); have hcall2 := HCF.out w1 hb2; obtain ⟨x0, x1, x2, x3, x4⟩ := tok_cells ((hb1.block _ (by simp; omega)).trans hx); obtain ⟨y0, y1, y2, y3, y4⟩ := tok_cells ((hb1.block _ (by simp)).trans hy))
      | (go_at_call 61; (with_reducible refine hcall2.mono ?_); rintro e w2 ⟨rfl, hb3⟩))
    exact bodyPost_ret (v := .bool B) (by simp [results, Try.results31, go_sem]) rfl ⟨by rw [HAF.out], hb2.trans (hb3.mono hb2.size)⟩

theorem jsame_any : ∀ k : Nat, SmOk k
  | 0 => fun _ _ _ _ _ _ _ h _ _ _ _ _ => h.elim
  | k + 1 => jsame_succ k (jsame_any k)

end Go.Proofs.Ythbpkmmnoeikoaa

/-
  json.Deep of a value that reads as a thing. Condition: it is no deeper than a million.
-/
namespace Go.Proofs.Ythbpkmmnoeikoaa
open Go Go.RowKit
set_option linter.unusedVariables false
set_option linter.unusedSimpArgs false

/-- how deep a thing is, that is no deeper than the fuel -/
def dp : Nat → Js.J → Nat
  | 0, _ => 0
  | k + 1, .mk kd _ _ _ xs => (xs.map (dp k)).foldl max 0 + (if kd = 5 ∨ kd = 6 then 1 else 0)
theorem foldl_max_mono : ∀ (l : List Nat) (a : Nat), a ≤ l.foldl max a
  | [], a => Nat.le_refl _
  | x :: l, a => Nat.le_trans (Nat.le_max_left a x) (foldl_max_mono l (max a x))
theorem foldl_take_le (l : List Nat) (i : Nat) (a : Nat) : (l.take i).foldl max a ≤ l.foldl max a := by
  conv => rhs; rw [← List.take_append_drop i l, List.foldl_append]
  exact foldl_max_mono _ _

def DpR (l : List Nat) (w0 : World) (i n : Value) (w : World) : Prop := ∃ k : Nat, k ≤ l.length ∧ i = .int .i64 (k : Int) ∧ n = .int .i64 (((l.take k).foldl max 0 : Nat) : Int) ∧ Below w0.heap.size w0 w

set_option maxRecDepth 100000 in
set_option maxHeartbeats 2000000 in
theorem jdeep_any : ∀ (k : Nat) (j : Js.J) (v : Value) (S : Nat → Prop) (W : World), JVn k S W v j → (∀ b, S b → b < W.heap.size) → Bd 1000000 j → dp k j ≤ 1000000 →
    Calls Try.prog 45 #[v] W fun e W' => e = .returned (.int .i64 (dp k j : Int)) ∧ Below W.heap.size W W'
  | 0, _, _, _, _, h, _, _, _ => h.elim
  | k + 1, .mk kd m s ns xs, v, S, W, h, hS, hB, hD => by
    have IH := Lib.hid (fun j v S W => jdeep_any k j v S W)
    obtain ⟨_, _, _, _, _, b1, b2, b3⟩ := hB
    obtain ⟨vn, vl, rfl, ⟨p1, c1, rfl, hn⟩, ⟨p2, c2, rfl, hi⟩⟩ := h
    have hx := heap_alloc_new W (.cells #[.int .i64 kd, .int .i64 m, .string (bs s), .slice p1 ns.length c1, .slice p2 xs.length c2] 41)
    have hb : Below W.heap.size W (W.alloc (.cells #[.int .i64 kd, .int .i64 m, .string (bs s), .slice p1 ns.length c1, .slice p2 xs.length c2] 41)) := (Below.refl _ W).alloc (Nat.le_refl _) _
    have HI := Lib.hid hi
    have HB3 := Lib.hid b3
    have hd0 : (xs.map (dp k)).foldl max 0 ≤ 1000000 := by have := hD; unfold dp at this; omega
    have HD := Lib.hid hd0
    have hmem : ∀ i (h : i < xs.length), dp k xs[i] ≤ 1000000 := fun i h => by
      have h1 := foldl_take_le (xs.map (dp k)) (i + 1) 0
      rw [List.take_add_one, List.foldl_append] at h1
      rw [List.getElem?_map, List.getElem?_eq_getElem h] at h1
      simp at h1
      omega
    have HM := Lib.hid hmem
    clear hi hn b3 hd0 hmem
    have hll : (xs.map (dp k)).length = xs.length := by simp
    obtain ⟨r, hr0⟩ : ∃ r, r = dp (k + 1) (.mk kd m s ns xs) := ⟨_, rfl⟩
    rw [← hr0]
    unfold dp at hr0
    have HR := Lib.hid hr0
    clear hr0
    go_enter Try.func45, Try.ntmps45
    go_wp2_with fail
    generalize W.alloc (.cells #[.int .i64 kd, .int .i64 m, .string (bs s), .slice p1 ns.length c1, .slice p2 xs.length c2] 41) = W2 at *
    go_loopw [9, 3] (DpR (xs.map (dp k)) W2) (fun i _ _ => xs.length - (intOf i).toNat)
    case atStart => exact ⟨0, Nat.zero_le _, by go_num, rfl, Below.refl _ _⟩
    case round =>
      obtain ⟨i, hi, rfl, rfl, hbl⟩ := hrel
      have hWl : W.heap.size < W2.heap.size := (Array.getElem?_eq_some_iff.1 hx).1
      obtain ⟨x0, x1, x2, x3, x4⟩ := tok_cells ((hbl.block W.heap.size hWl).trans hx)
      rw [hll] at hi
      have hbW := hb.trans (hbl.mono hb.size)
      have hmax : (((xs.map (dp k)).take i).foldl max 0) ≤ 1000000 := Nat.le_trans (foldl_take_le _ _ _) HD.out
      by_cases hlt : i < xs.length
      · have tl : decide ((i : Int) < (xs.length : Int)) = true := decide_eq_true (by omega)
        obtain ⟨e1, o1, d0, d1, d2, d3, d4, rfl, hs1, ⟨g0, g1, g2, g3, g4⟩, hr1⟩ := HI.out i hlt
        obtain ⟨u0, u1, u2, u3, u4, u5, u6, u7, u8, he⟩ := hr1.form2
        simp at he
        obtain ⟨rfl, rfl, rfl, rfl, rfl⟩ := he
        have q1 := hbW.block e1 (hS e1 hs1)
        have g0 := cell_same q1 g0
        have g1 := cell_same q1 g1
        have g2 := cell_same q1 g2
        have g3 := cell_same q1 g3
        have g4 := cell_same q1 g4
        have hst : ((xs.map (dp k)).take (i + 1)).foldl max 0 = max (((xs.map (dp k)).take i).foldl max 0) (dp k xs[i]) := by
          rw [List.take_add_one, List.foldl_append, List.getElem?_map, List.getElem?_eq_getElem hlt]; rfl
        have HST := Lib.hid hst
        have hal : Below W.heap.size W (wr.alloc (.cells #[.int .i64 u0, .int .i64 u1, .string u2, .slice u3 u4 u5, .slice u6 u7 u8] 41)) := hbW.alloc hbW.size _
        have hcall := IH.out xs[i] _ S (wr.alloc (.cells #[.int .i64 u0, .int .i64 u1, .string u2, .slice u3 u4 u5, .slice u6 u7 u8] 41)) (hr1.below hS hal) (fun b h => Nat.lt_of_lt_of_le (hS b h) hal.size) (HB3.out i hlt) (HM.out i hlt)
        have hdm := HM.out i hlt
        obtain ⟨a0, a1, a2, a3, a4⟩ := tok_cells (heap_alloc_new wr (.cells #[.int .i64 u0, .int .i64 u1, .string u2, .slice u3 u4 u5, .slice u6 u7 u8] 41))
        clear hst q1 hr1 IH HI HB3 HM HD hbW
        generalize dp k xs[i] = D at *
        generalize ((xs.map (dp k)).take i).foldl max 0 = A at *
        go_wp2_with (go_at_call 45; (with_reducible refine hcall.mono ?_); rintro e w1 ⟨rfl, hb1⟩)
        go_roundw
        case rel =>
          have hmx : ((max A D : Nat) : Int) = max (A : Int) (D : Int) := by omega
          refine ⟨i + 1, by rw [hll]; omega, by go_num, by rw [HST.out, hmx], ?_⟩
          have h1 := hbl.alloc hbl.size (.cells #[.int .i64 u0, .int .i64 u1, .string u2, .slice u3 u4 u5, .slice u6 u7 u8] 41)
          exact h1.trans (hb1.mono h1.size)
        case measure => simp [intOf]; omega
      · obtain rfl : i = xs.length := by omega
        have tl : decide ((xs.length : Int) < (xs.length : Int)) = false := decide_eq_false (by omega)
        have hfull : (xs.map (dp k)).take xs.length = xs.map (dp k) := List.take_of_length_le (by rw [hll]; exact Nat.le_refl _)
        rw [hfull] at hmax ⊢
        clear hfull hll IH HI HB3 HM HD
        unfold dp at hD
        generalize (xs.map (dp k)).foldl max 0 = A at *
        by_cases h5 : kd = 5
        · have t5 : (kd == 5) = true := by simp [h5]
          obtain rfl : r = A + 1 := HR.out.trans (by rw [if_pos (.inl h5)])
          clear hD h5 HR
          go_wp2
          exact bodyPost_ret (v := .int .i64 ((A + 1 : Nat) : Int)) (by simp [results, Try.results45, go_sem]) rfl ⟨rfl, hbW⟩
        · have t5 : (kd == 5) = false := by simp [h5]
          by_cases h6 : kd = 6
          · have t6 : (kd == 6) = true := by simp [h6]
            obtain rfl : r = A + 1 := HR.out.trans (by rw [if_pos (.inr h6)])
            clear hD h5 h6 HR
            go_wp2
            exact bodyPost_ret (v := .int .i64 ((A + 1 : Nat) : Int)) (by simp [results, Try.results45, go_sem]) rfl ⟨rfl, hbW⟩
          · have t6 : (kd == 6) = false := by simp [h6]
            have hrA : (r : Int) = (A : Int) := by rw [HR.out, if_neg (by rintro (h | h); exact h5 h; exact h6 h)]; rfl
            have HRA := Lib.hid hrA
            clear hD h5 h6 HR hrA
            go_wp2
            exact bodyPost_ret (v := .int .i64 (A : Int)) (by simp [results, Try.results45, go_sem]) rfl ⟨by rw [HRA.out], hbW⟩

end Go.Proofs.Ythbpkmmnoeikoaa

/-
  slices.Index at a row of names. Condition: at most a million names.
-/
namespace Go.Proofs.Ythbpkmmnoeikoaa
open Go Go.RowKit
set_option linter.unusedVariables false
set_option linter.unusedSimpArgs false

/-- where a name stands first -/
def IxAt (ns : List (List UInt8)) (l : List UInt8) (r : Int) : Prop := (r = -1 ∧ ¬ l ∈ ns) ∨ ∃ i, ∃ h : i < ns.length, r = (i : Int) ∧ ns[i] = l ∧ ∀ k (hk : k < ns.length), k < i → ns[k] ≠ l
def IxR (ns : List (List UInt8)) (l : List UInt8) (w0 : World) (i : Value) (w : World) : Prop := ∃ k : Nat, k ≤ ns.length ∧ i = .int .i64 (k : Int) ∧ w = w0 ∧ Hid (∀ m (h : m < ns.length), m < k → ns[m] ≠ l)

set_option maxRecDepth 100000 in
set_option maxHeartbeats 1000000 in
theorem sindex_any (S : Nat → Prop) (v : Value) (ns : List (List UInt8)) (l : List UInt8) (W : World) (hv : NamesV S W v ns) (hN : ns.length ≤ 1000000) :
    Calls Try.prog 55 #[v, str l] W fun e W' => (∃ r : Int, e = .returned (.int .i64 r) ∧ IxAt ns l r) ∧ W' = W := by
  obtain ⟨p, c, rfl, hn⟩ := hv
  have HN := Lib.hid hn
  clear hn
  have key : ∀ x : List UInt8, ((bs l).toList == (bs x).toList) = decide (x = l) := fun x => by
    rw [ByteArray.toList_eq, ByteArray.toList_eq]
    show (l == x) = _
    by_cases h : x = l
    · rw [decide_eq_true h, h]; simp
    · rw [decide_eq_false h]; exact beq_eq_false_iff_ne.2 (fun e => h e.symm)
  have KEY := Lib.hid key
  clear key
  go_enter Try.func55, Try.ntmps55
  go_wp2_with fail
  go_loopw [8] (IxR ns l W) (fun i _ => ns.length - (intOf i).toNat)
  case atStart => exact ⟨0, Nat.zero_le _, by go_num, rfl, fun m h h2 => absurd h2 (by omega)⟩
  case round =>
    obtain ⟨i, hi, rfl, rfl, HL⟩ := hrel
    by_cases hlt : i < ns.length
    · have tl : decide ((i : Int) < (ns.length : Int)) = true := decide_eq_true (by omega)
      obtain ⟨b, o, rfl, hs, hc⟩ := HN.out i hlt
      have hk := KEY.out ns[i]
      by_cases he : ns[i] = l
      · rw [decide_eq_true he] at hk
        have HE := Lib.hid he
        clear he
        go_wp2
        exact bodyPost_ret (v := .int .i64 (i : Int)) (by simp [results, Try.results55, go_sem]) rfl ⟨⟨_, rfl, .inr ⟨i, hlt, rfl, HE.out, fun k hk h => HL.out k hk h⟩⟩, rfl⟩
      · rw [decide_eq_false he] at hk
        have HE := Lib.hid he
        clear he
        go_wp2
        go_roundw
        case rel => exact ⟨i + 1, by omega, by go_num, rfl, fun m h h2 => by
          by_cases hm : m = i
          · subst hm; exact HE.out
          · exact HL.out m h (by omega)⟩
        case measure => simp [intOf]; omega
    · obtain rfl : i = ns.length := by omega
      have tl : decide ((ns.length : Int) < (ns.length : Int)) = false := decide_eq_false (by omega)
      go_wp2
      exact bodyPost_ret (v := .int .i64 (-1)) (by simp [results, Try.results55, go_sem]) rfl ⟨⟨_, rfl, .inl ⟨rfl, fun hm => by
        obtain ⟨k, hk, e⟩ := List.getElem_of_mem hm
        exact HL.out k hk hk e⟩⟩, rfl⟩

end Go.Proofs.Ythbpkmmnoeikoaa

/-
  json.Find of a value that reads as a thing. Condition: no row of it is longer than a million.
-/
namespace Go.Proofs.Ythbpkmmnoeikoaa
open Go Go.RowKit
set_option linter.unusedVariables false
set_option linter.unusedSimpArgs false

set_option maxRecDepth 100000 in
set_option maxHeartbeats 1000000 in
theorem jfind_any (k : Nat) (S : Nat → Prop) (v : Value) (kd m : Int) (s : List UInt8) (ns : List (List UInt8)) (xs : List Js.J) (l : List UInt8) (W : World) (h : JVn (k + 1) S W v (.mk kd m s ns xs)) (hS : ∀ b, S b → b < W.heap.size) (hN : ns.length ≤ 1000000) (hX : xs.length ≤ 1000000) :
    Calls Try.prog 29 #[v, str l] W fun e W' => Below W.heap.size W W' ∧ ∃ r : Int, IxAt ns l r ∧
      ((kd = 6 ∧ ∃ i, ∃ hi : i < xs.length, r = (i : Int) ∧ ∃ u, e = .returned (.tuple #[u, .bool true]) ∧ JVn k S W' u xs[i]) ∨
       (¬ (kd = 6 ∧ 0 ≤ r ∧ r < (xs.length : Int)) ∧ e = .returned (.tuple #[.agg #[.int .i64 0, .int .i64 0, .string ⟨#[]⟩, .slice none 0 0, .slice none 0 0], .bool false]))) := by
  obtain ⟨vn, vl, rfl, hn, ⟨p2, c2, rfl, hi⟩⟩ := h
  obtain ⟨p1, c1, hvn, _⟩ := id hn
  subst hvn
  obtain ⟨hx, hy, hb⟩ := two_box (w := W) (o0 := .cells #[.int .i64 kd, .int .i64 m, .string (bs s), .slice p1 ns.length c1, .slice p2 xs.length c2] 41) (o1 := .cells #[.int .i64 0, .int .i64 0, .string ⟨#[]⟩, .slice none 0 0, .slice none 0 0] 41)
  have HI := Lib.hid hi
  have HIX := Lib.hid (sindex_any S _ ns l _ (hn.keep (fun _ h => h) (fun b h => hb.block b (hS b h))) hN)
  clear hi hn
  go_enter Try.func29, Try.ntmps29
  go_wp2_with fail
  generalize (W.alloc (.cells #[.int .i64 kd, .int .i64 m, .string (bs s), .slice p1 ns.length c1, .slice p2 xs.length c2] 41)).alloc (.cells #[.int .i64 0, .int .i64 0, .string ⟨#[]⟩, .slice none 0 0, .slice none 0 0] 41) = W2 at *
  refine HIX.out.mono ?_
  rintro e w1 ⟨⟨r, rfl, hr⟩, rfl⟩
  obtain ⟨x0, x1, x2, x3, x4⟩ := tok_cells hx
  obtain ⟨y0, y1, y2, y3, y4⟩ := tok_cells hy
  obtain ⟨v0, v1, v2, v3, v4⟩ := tok_frozen hy
  have HR := Lib.hid hr
  clear hr HIX
  by_cases hc : kd = 6 ∧ 0 ≤ r ∧ r < (xs.length : Int)
  · obtain ⟨h6, hr0, hr1⟩ := hc
    obtain ⟨i, rfl⟩ := Int.eq_ofNat_of_zero_le hr0
    have hlt : i < xs.length := by omega
    obtain ⟨e1, o1, d0, d1, d2, d3, d4, rfl, hs1, ⟨g0, g1, g2, g3, g4⟩, hj⟩ := HI.out i hlt
    obtain ⟨u0, u1, u2, u3, u4, u5, u6, u7, u8, he⟩ := hj.form2
    simp at he
    obtain ⟨rfl, rfl, rfl, rfl, rfl⟩ := he
    have q1 := hb.block e1 (hS e1 hs1)
    have g0 := cell_same q1 g0
    have g1 := cell_same q1 g1
    have g2 := cell_same q1 g2
    have g3 := cell_same q1 g3
    have g4 := cell_same q1 g4
    have t6 : (kd != 6) = false := by simp [h6]
    have tr : decide ((i : Int) < 0) = false := decide_eq_false (by omega)
    have tg : decide ((i : Int) ≥ (xs.length : Int)) = false := decide_eq_false (by omega)
    have tn : decide (xs.length ≤ i) = false := decide_eq_false (by omega)
    have H6 := Lib.hid h6
    obtain ⟨WW, hWW, hwb, hbl⟩ := tok_set5 (n₀ := W.heap.size) hy (by omega) (.int .i64 u0) (.int .i64 u1) (.string u2) (.slice u3 u4 u5) (.slice u6 u7 u8)
    clear h6 q1
    go_wp2_with fail
    rw [← hWW]
    obtain ⟨z0, z1, z2, z3, z4⟩ := tok_cells hwb
    have hbb := hb.trans hbl
    clear hWW x0 x1 x2 x3 x4 y0 y1 y2 y3 y4 v0 v1 v2 v3 v4 g0 g1 g2 g3 g4
    exact bodyPost_ret (v := .tuple #[.agg #[.int .i64 u0, .int .i64 u1, .string u2, .slice u3 u4 u5, .slice u6 u7 u8], .bool true]) (by simp [results, Try.results29, go_sem, z0, z1, z2, z3, z4]) rfl ⟨hbb, i, HR.out, .inl ⟨H6.out, i, hlt, rfl, _, rfl, hj.below hS hbb⟩⟩
  · by_cases h6 : kd = 6
    · have t6 : (kd != 6) = false := by simp [h6]
      by_cases h0 : r < 0
      · have tr : decide (r < 0) = true := decide_eq_true h0
        clear h6 h0
        obtain ⟨WW, hWW, hwb, hbl⟩ := tok_set5 (n₀ := W.heap.size) hy (by omega) (.int .i64 0) (.int .i64 0) (.string ⟨#[]⟩) (.slice none 0 0) (.slice none 0 0)
        have HC := Lib.hid hc
        clear hc
        go_wp2_with fail
        rw [← hWW]
        obtain ⟨z0, z1, z2, z3, z4⟩ := tok_cells hwb
        have hbb := hb.trans hbl
        clear hWW x0 x1 x2 x3 x4 y0 y1 y2 y3 y4 v0 v1 v2 v3 v4
        exact bodyPost_ret (v := .tuple #[.agg #[.int .i64 0, .int .i64 0, .string ⟨#[]⟩, .slice none 0 0, .slice none 0 0], .bool false]) (by simp [results, Try.results29, go_sem, z0, z1, z2, z3, z4]) rfl ⟨hbb, r, HR.out, .inr ⟨HC.out, rfl⟩⟩
      · have tr : decide (r < 0) = false := decide_eq_false h0
        have tg : decide (r ≥ (xs.length : Int)) = true := decide_eq_true (by have := fun h => hc ⟨h6, by omega, h⟩; omega)
        have tg2 : decide ((xs.length : Int) ≤ r) = true := tg
        clear h6 h0
        obtain ⟨WW, hWW, hwb, hbl⟩ := tok_set5 (n₀ := W.heap.size) hy (by omega) (.int .i64 0) (.int .i64 0) (.string ⟨#[]⟩) (.slice none 0 0) (.slice none 0 0)
        have HC := Lib.hid hc
        clear hc
        go_wp2_with fail
        rw [← hWW]
        obtain ⟨z0, z1, z2, z3, z4⟩ := tok_cells hwb
        have hbb := hb.trans hbl
        clear hWW x0 x1 x2 x3 x4 y0 y1 y2 y3 y4 v0 v1 v2 v3 v4
        exact bodyPost_ret (v := .tuple #[.agg #[.int .i64 0, .int .i64 0, .string ⟨#[]⟩, .slice none 0 0, .slice none 0 0], .bool false]) (by simp [results, Try.results29, go_sem, z0, z1, z2, z3, z4]) rfl ⟨hbb, r, HR.out, .inr ⟨HC.out, rfl⟩⟩
    · have t6 : (kd != 6) = true := by simp [h6]
      clear h6
      obtain ⟨WW, hWW, hwb, hbl⟩ := tok_set5 (n₀ := W.heap.size) hy (by omega) (.int .i64 0) (.int .i64 0) (.string ⟨#[]⟩) (.slice none 0 0) (.slice none 0 0)
      have HC := Lib.hid hc
      clear hc
      go_wp2_with fail
      rw [← hWW]
      obtain ⟨z0, z1, z2, z3, z4⟩ := tok_cells hwb
      have hbb := hb.trans hbl
      clear hWW x0 x1 x2 x3 x4 y0 y1 y2 y3 y4 v0 v1 v2 v3 v4
      exact bodyPost_ret (v := .tuple #[.agg #[.int .i64 0, .int .i64 0, .string ⟨#[]⟩, .slice none 0 0, .slice none 0 0], .bool false]) (by simp [results, Try.results29, go_sem, z0, z1, z2, z3, z4]) rfl ⟨hbb, r, HR.out, .inr ⟨HC.out, rfl⟩⟩

end Go.Proofs.Ythbpkmmnoeikoaa
