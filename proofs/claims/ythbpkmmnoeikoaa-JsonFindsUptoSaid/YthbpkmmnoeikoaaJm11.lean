/-
  Several texts in one, each with its own head below. Conditions: as each says.
-/
import Derived.Test.YthbpkmmnoeikoaaJm10
import Derived.Test.YthbpkmmnoeikoaaJm08
import Derived.Deep.RegionHeld
import Derived.Deep.AppendLies
import Derived.Deep.RegionLaw
import Derived.RegionDies
/-
  The reference's Same, of two values that read as the same thing: it says yes. Condition: no row of it is longer than a million.
-/
namespace Go.Proofs.Ythbpkmmnoeikoaa
open Go Go.RowKit
set_option linter.unusedVariables false
set_option linter.unusedSimpArgs false

/-- no row is longer -/
inductive Bd (n : Nat) : Js.J → Prop
  | mk (kd m : Int) (s : List UInt8) (ns : List (List UInt8)) (xs : List Js.J) (h1 : ns.length ≤ n) (h2 : xs.length ≤ n) (h3 : ∀ i (h : i < xs.length), Bd n xs[i]) : Bd n (.mk kd m s ns xs)

theorem JVn.below {k : Nat} {S : Nat → Prop} {W W' : World} {v : Value} {j : Js.J} (h : JVn k S W v j) (hS : ∀ b, S b → b < W.heap.size) (hb : Below W.heap.size W W') : JVn k S W' v j := JVn.keep (fun _ h => h) (fun b h => hb.block b (hS b h)) _ _ _ h
theorem two_box {w : World} {o0 o1 : Obj} : ((w.alloc o0).alloc o1).heap[w.heap.size]? = some o0 ∧ ((w.alloc o0).alloc o1).heap[w.heap.size + 1]? = some o1 ∧ Below w.heap.size w ((w.alloc o0).alloc o1) := by
  have e1 : (w.alloc o0).heap.size = w.heap.size + 1 := by simp
  refine ⟨(Below.heap_alloc _ _ _ (by omega)).trans (heap_alloc_new w o0), ?_, ((Below.refl _ w).alloc (Nat.le_refl _) _).alloc (by omega) _⟩
  have := heap_alloc_new (w.alloc o0) o1
  rwa [e1] at this

theorem s12 {w w' : World} {a0 a1 a2 a3 a4 a5 a6 a7 a8 a9 a10 a11 : Addr} {u0 u1 u2 u3 u4 u5 u6 u7 u8 u9 u10 u11 : Value} (hb : Below w.heap.size w w') (h : w.cell? a0 = some u0 ∧ w.cell? a1 = some u1 ∧ w.cell? a2 = some u2 ∧ w.cell? a3 = some u3 ∧ w.cell? a4 = some u4 ∧ w.cell? a5 = some u5 ∧ w.cell? a6 = some u6 ∧ w.cell? a7 = some u7 ∧ w.cell? a8 = some u8 ∧ w.cell? a9 = some u9 ∧ w.cell? a10 = some u10 ∧ w.cell? a11 = some u11) :
    w'.cell? a0 = some u0 ∧ w'.cell? a1 = some u1 ∧ w'.cell? a2 = some u2 ∧ w'.cell? a3 = some u3 ∧ w'.cell? a4 = some u4 ∧ w'.cell? a5 = some u5 ∧ w'.cell? a6 = some u6 ∧ w'.cell? a7 = some u7 ∧ w'.cell? a8 = some u8 ∧ w'.cell? a9 = some u9 ∧ w'.cell? a10 = some u10 ∧ w'.cell? a11 = some u11 := by
  obtain ⟨h0, h1, h2, h3, h4, h5, h6, h7, h8, h9, h10, h11⟩ := h
  exact ⟨cell_below hb h0, cell_below hb h1, cell_below hb h2, cell_below hb h3, cell_below hb h4, cell_below hb h5, cell_below hb h6, cell_below hb h7, cell_below hb h8, cell_below hb h9, cell_below hb h10, cell_below hb h11⟩

def RsR (n : Nat) (w0 : World) (i : Value) (w : World) : Prop := ∃ k : Nat, k ≤ n ∧ i = .int .i64 (k : Int) ∧ Below w0.heap.size w0 w

set_option maxRecDepth 100000 in
set_option maxHeartbeats 4000000 in
theorem jrsame_any (N : Nat) (hN : N ≤ 1000000) : ∀ (k : Nat) (j : Js.J) (v1 v2 : Value) (S1 S2 : Nat → Prop) (W : World), JVn k S1 W v1 j → JVn k S2 W v2 j → (∀ b, S1 b → b < W.heap.size) → (∀ b, S2 b → b < W.heap.size) → Bd N j →
    Calls Try.prog 27 #[v1, v2] W fun e W' => e = .returned (.bool true) ∧ Below W.heap.size W W'
  | 0, _, _, _, _, _, _, h, _, _, _, _ => h.elim
  | k + 1, .mk kd m s ns xs, v1, v2, S1, S2, W, h1, h2, hS1, hS2, hB => by
    have IH := Lib.hid (fun j v1 v2 S1 S2 W => jrsame_any N hN k j v1 v2 S1 S2 W)
    obtain ⟨_, _, _, _, _, b1, b2, b3⟩ := hB
    obtain ⟨vn1, vl1, rfl, ⟨p1, c1, rfl, hn1⟩, ⟨p2, c2, rfl, hi1⟩⟩ := h1
    obtain ⟨vn2, vl2, rfl, ⟨p3, c3, rfl, hn2⟩, ⟨p4, c4, rfl, hi2⟩⟩ := h2
    obtain ⟨hx, hy, hb⟩ := two_box (w := W) (o0 := .cells #[.int .i64 kd, .int .i64 m, .string (bs s), .slice p1 ns.length c1, .slice p2 xs.length c2] 41) (o1 := .cells #[.int .i64 kd, .int .i64 m, .string (bs s), .slice p3 ns.length c3, .slice p4 xs.length c4] 41)
    have HN1 := Lib.hid hn1
    have HN2 := Lib.hid hn2
    have HI1 := Lib.hid hi1
    have HI2 := Lib.hid hi2
    have HB3 := Lib.hid b3
    clear hn1 hn2 hi1 hi2 b3
    have n1 : ((ns.length : Int) != (ns.length : Int)) = false := by simp
    have n2 : ((xs.length : Int) != (xs.length : Int)) = false := by simp
    go_enter Try.func27, Try.ntmps27
    go_wp2_with fail
    generalize (W.alloc (.cells #[.int .i64 kd, .int .i64 m, .string (bs s), .slice p1 ns.length c1, .slice p2 xs.length c2] 41)).alloc (.cells #[.int .i64 kd, .int .i64 m, .string (bs s), .slice p3 ns.length c3, .slice p4 xs.length c4] 41) = W2 at *
    have hW : W.heap.size + 1 < W2.heap.size := (Array.getElem?_eq_some_iff.1 hy).1
    go_loopw [5] (RsR ns.length W2) (fun i _ => ns.length - (intOf i).toNat)
    case atStart => exact ⟨0, Nat.zero_le _, by go_num, Below.refl _ _⟩
    case round =>
      obtain ⟨i, hi, rfl, hbl⟩ := hrel
      obtain ⟨x0, x1, x2, x3, x4⟩ := tok_cells ((hbl.block W.heap.size (by omega)).trans hx)
      obtain ⟨y0, y1, y2, y3, y4⟩ := tok_cells ((hbl.block (W.heap.size + 1) (by omega)).trans hy)
      by_cases hlt : i < ns.length
      · have tl : decide ((i : Int) < (ns.length : Int)) = true := decide_eq_true (by omega)
        obtain ⟨e1, o1, rfl, hs1, hc1⟩ := HN1.out i hlt
        obtain ⟨e2, o2, rfl, hs2, hc2⟩ := HN2.out i hlt
        have hc1 := cell_same (hbl.block e1 (by have := hS1 e1 hs1; omega)) (cell_same (hb.block e1 (hS1 e1 hs1)) hc1)
        have hc2 := cell_same (hbl.block e2 (by have := hS2 e2 hs2; omega)) (cell_same (hb.block e2 (hS2 e2 hs2)) hc2)
        go_wp2
        go_region
        go_wp2
        go_roundw
        case rel => exact ⟨i + 1, by omega, by go_num, hbl.drew⟩
        case measure => simp [intOf]; omega
      · obtain rfl : i = ns.length := by omega
        have tl : decide ((ns.length : Int) < (ns.length : Int)) = false := decide_eq_false (by omega)
        go_wp2_with fail
        clear x0 x1 x2 x3 x4 y0 y1 y2 y3 y4
        go_loopw [6] (RsR xs.length W2) (fun i _ => xs.length - (intOf i).toNat)
        case atStart => exact ⟨0, Nat.zero_le _, by go_num, hbl⟩
        case round =>
          clear hbl
          obtain ⟨i, hi, rfl, hbl⟩ := hrel
          obtain ⟨x0, x1, x2, x3, x4⟩ := tok_cells ((hbl.block W.heap.size (by omega)).trans hx)
          obtain ⟨y0, y1, y2, y3, y4⟩ := tok_cells ((hbl.block (W.heap.size + 1) (by omega)).trans hy)
          by_cases hlt : i < xs.length
          · have tl : decide ((i : Int) < (xs.length : Int)) = true := decide_eq_true (by omega)
            obtain ⟨e1, o1, d0, d1, d2, d3, d4, rfl, hs1, ⟨g0, g1, g2, g3, g4⟩, hr1⟩ := HI1.out i hlt
            obtain ⟨e2, o2, f0, f1, f2, f3, f4, rfl, hs2, ⟨l0, l1, l2, l3, l4⟩, hr2⟩ := HI2.out i hlt
            have hbW := hb.trans (hbl.mono hb.size)
            have q1 := hbW.block e1 (hS1 e1 hs1)
            have q2 := hbW.block e2 (hS2 e2 hs2)
            have g0 := cell_same q1 g0
            have g1 := cell_same q1 g1
            have g2 := cell_same q1 g2
            have g3 := cell_same q1 g3
            have g4 := cell_same q1 g4
            have l0 := cell_same q2 l0
            have l1 := cell_same q2 l1
            have l2 := cell_same q2 l2
            have l3 := cell_same q2 l3
            have l4 := cell_same q2 l4
            have hsz : W.heap.size ≤ wr.heap.size := hbW.size
            have hcall := IH.out xs[i] _ _ S1 S2 wr.drew (hr1.below hS1 hbW.drew) (hr2.below hS2 hbW.drew) (fun b h => Nat.lt_of_lt_of_le (hS1 b h) hsz) (fun b h => Nat.lt_of_lt_of_le (hS2 b h) hsz) (HB3.out i hlt)
            clear q1 q2 hr1 hr2 HI1 HI2 HN1 HN2 HB3 IH x0 x1 x2 x3 y0 y1 y2 y3
            go_wp2_with fail
            go_region_held (fun w' => w'.cell? ⟨W.heap.size, 4, none⟩ = some (.slice (some ⟨e1, o1, none⟩) xs.length c2) ∧ w'.cell? ⟨W.heap.size + 1, 4, none⟩ = some (.slice (some ⟨e2, o2, none⟩) xs.length c4) ∧ w'.cell? ⟨e1, o1 + i * 5, none⟩ = some (d0) ∧ w'.cell? ⟨e1, o1 + i * 5 + 1, none⟩ = some (d1) ∧ w'.cell? ⟨e1, o1 + i * 5 + 2, none⟩ = some (d2) ∧ w'.cell? ⟨e1, o1 + i * 5 + 3, none⟩ = some (d3) ∧ w'.cell? ⟨e1, o1 + i * 5 + 4, none⟩ = some (d4) ∧ w'.cell? ⟨e2, o2 + i * 5, none⟩ = some (f0) ∧ w'.cell? ⟨e2, o2 + i * 5 + 1, none⟩ = some (f1) ∧ w'.cell? ⟨e2, o2 + i * 5 + 2, none⟩ = some (f2) ∧ w'.cell? ⟨e2, o2 + i * 5 + 3, none⟩ = some (f3) ∧ w'.cell? ⟨e2, o2 + i * 5 + 4, none⟩ = some (f4))
              (first
                | exact ⟨x4, y4, g0, g1, g2, g3, g4, l0, l1, l2, l3, l4⟩
                | exact s12 (by assumption) (by assumption))
              (first
                | (go_at_call 27; (with_reducible refine hcall.mono ?_); rintro e w1 ⟨rfl, hb1⟩))
            go_wp2
            go_roundw
            case rel => exact ⟨i + 1, by omega, by go_num, (hbl.drew).trans (hb1.mono (by have := hbl.size; exact this))⟩
            case measure => simp [intOf]; omega
          · obtain rfl : i = xs.length := by omega
            have tl : decide ((xs.length : Int) < (xs.length : Int)) = false := decide_eq_false (by omega)
            go_wp2_with fail
            exact bodyPost_ret (v := .bool true) (by simp [results, Try.results27, go_sem]) rfl ⟨rfl, hb.trans (hbl.mono hb.size)⟩

end Go.Proofs.Ythbpkmmnoeikoaa

/-
  What lies while a thing's row is read: the reader's box, the result, the thing (block w0's size + 2), its rows. No condition.
-/
namespace Go.Proofs.Ythbpkmmnoeikoaa
open Go Go.RowKit
set_option linter.unusedVariables false
set_option linter.unusedSimpArgs false

/-- vx: the row that the thing holds; vl, n, cs: the row that is the call's own; ex: values that lie besides; wi: the world to compare with -/
structure XgD (w0 wi : World) (rb : Nat) (kd : Int) (bs : Nat) (ns : List (List UInt8)) (xs : List Js.J) (vs : List Value) (ex : List (Value × Js.J)) (vn vx vl : Value) (n : Nat) (cs : List Value) (D : Nat → Prop) (k : Nat) (W : World) : Prop where
  gr : w0.grownBy W (some rb)
  x : W.heap[w0.heap.size + 2]? = some (.cells #[.int .i64 kd, .int .i64 0, .string ⟨#[]⟩, vn, vx] 41 (0, 0))
  fr : ∀ b, b < bs → b ≠ rb → b ≠ w0.heap.size + 2 → W.heap[b]? = wi.heap[b]?
  nm : W.ownsRow bs 9 1 vn ns.length (ns.map str)
  own : W.ownsRow bs 41 5 vl n cs
  kidl : vs.length = xs.length
  kid : ∀ i (h : i < xs.length) (h' : i < vs.length), JVn k D W vs[i] xs[i]
  exk : ∀ p ∈ ex, JVn k D W p.1 p.2
  dom : ∀ b, D b → bs ≤ b ∧ b < W.heap.size ∧ vl.ownBlock ≠ some b ∧ vn.ownBlock ≠ some b
  ne : ∀ b, vn.ownBlock = some b → vl.ownBlock ≠ some b
  size : bs ≤ W.heap.size
def Xg (w0 wi : World) (rb : Nat) (kd : Int) (bs : Nat) (ns : List (List UInt8)) (xs : List Js.J) (vs : List Value) (ex : List (Value × Js.J)) (vn vx vl : Value) (n : Nat) (cs : List Value) (W : World) : Prop :=
  ∃ D k, XgD w0 wi rb kd bs ns xs vs ex vn vx vl n cs D k W

section
variable {w0 wi W W' : World} {rb bs n : Nat} {kd : Int} {ns : List (List UInt8)} {xs : List Js.J} {vs : List Value} {ex : List (Value × Js.J)} {vn vx vl : Value} {cs : List Value}

/-- the reader goes on -/
theorem Xg.reader (h : Xg w0 wi rb kd bs ns xs vs ex vn vx vl n cs W) (hg : W.grownBy W' (some rb)) (h0 : rb < w0.heap.size) (h3 : w0.heap.size + 3 ≤ bs) : Xg w0 wi rb kd bs ns xs vs ex vn vx vl n cs W' := by
  obtain ⟨D, k, h⟩ := h
  have hD : ∀ b, D b → W'.heap[b]? = W.heap[b]? := fun b hb => by
    obtain ⟨d1, d2, _⟩ := h.dom b hb
    exact hg.block b d2 (fun e => by cases e; omega)
  have hne : ∀ (v : Value) (e : TypeId) (size m : Nat) (ys : List Value), W.ownsRow bs e size v m ys → W'.ownsRow bs e size v m ys := fun v e size m ys hv =>
    hv.kept hg (by
      cases hb : v.ownBlock with
      | none => exact .inl rfl
      | some g => exact .inr (fun e => by cases e; have := (hv.lt _ hb).1; omega))
  have hs := h.size
  exact ⟨D, k, ⟨h.gr.trans hg, (hg.block _ (by omega) (fun e => by cases e; omega)).trans h.x, fun b h1 h2 h4 => (hg.block b (by omega) (fun e => by cases e; exact h2 rfl)).trans (h.fr b h1 h2 h4), hne _ _ _ _ _ h.nm, hne _ _ _ _ _ h.own, h.kidl,
    fun i h1 h2 => JVn.keep (fun _ h => h) hD _ _ _ (h.kid i h1 h2), fun p hp => JVn.keep (fun _ h => h) hD _ _ _ (h.exk p hp), fun b hb => by
      obtain ⟨d1, d2, d3⟩ := h.dom b hb
      exact ⟨d1, Nat.lt_of_lt_of_le d2 hg.size, d3⟩, h.ne, Nat.le_trans hs hg.size⟩⟩
theorem Xg.below (h : Xg w0 wi rb kd bs ns xs vs ex vn vx vl n cs W) (hb : Below W.heap.size W W') (h0 : rb < w0.heap.size) (h3 : w0.heap.size + 3 ≤ bs) : Xg w0 wi rb kd bs ns xs vs ex vn vx vl n cs W' := h.reader (gb_of hb) h0 h3
/-- a thing is read -/
theorem Xg.call {I : Nat → Prop} {kc : Nat} {u : Value} {j : Js.J} (h : Xg w0 wi rb kd bs ns xs vs ex vn vx vl n cs W) (hg : W.grownBy W' (some rb)) (h0 : rb < w0.heap.size) (h3 : w0.heap.size + 3 ≤ bs)
    (hI : ∀ b, I b → W.heap.size ≤ b ∧ b < W'.heap.size) (hu : JVn kc I W' u j) : Xg w0 wi rb kd bs ns xs vs (ex ++ [(u, j)]) vn vx vl n cs W' := by
  have hlt : ∀ b, vl.ownBlock = some b → b < W.heap.size := fun b hb => by obtain ⟨D, k, h⟩ := h; exact (h.own.lt b hb).2
  have hlt2 : ∀ b, vn.ownBlock = some b → b < W.heap.size := fun b hb => by obtain ⟨D, k, h⟩ := h; exact (h.nm.lt b hb).2
  have hsz : bs ≤ W.heap.size := by obtain ⟨D, k, h⟩ := h; exact h.size
  obtain ⟨D, k, h⟩ := h.reader hg h0 h3
  refine ⟨fun b => D b ∨ I b, max k kc, ⟨h.gr, h.x, h.fr, h.nm, h.own, h.kidl, ?_, ?_, ?_, h.ne, h.size⟩⟩
  · exact fun i h1 h2 => JVn.le (Nat.le_max_left _ _) (JVn.keep (fun _ h => .inl h) (fun _ _ => rfl) _ _ _ (h.kid i h1 h2))
  · intro p hp
    rw [List.mem_append, List.mem_singleton] at hp
    rcases hp with hp | rfl
    · exact JVn.le (Nat.le_max_left _ _) (JVn.keep (fun _ h => .inl h) (fun _ _ => rfl) _ _ _ (h.exk p hp))
    · exact JVn.le (Nat.le_max_right _ _) (JVn.keep (fun _ h => .inr h) (fun _ _ => rfl) _ _ _ hu)
  · rintro b (hb | hb)
    · exact h.dom b hb
    · obtain ⟨i1, i2⟩ := hI b hb
      refine ⟨by omega, i2, fun e => ?_, fun e => ?_⟩
      · have := hlt b e; omega
      · have := hlt2 b e; omega
/-- room is made -/
theorem Xg.app {g cap m : Nat} {more : List Value} (h : Xg w0 wi rb kd bs ns xs vs ex vn vx vl n cs W) (h0 : rb < w0.heap.size) (h3 : w0.heap.size + 3 ≤ bs)
    (hown : W'.ownsRow bs 41 5 (.slice (some ⟨g, 0, none⟩) m cap) m more) (hg : W.grownBy W' vl.ownBlock) (hor : vl.ownBlock = some g ∨ g = W.heap.size) :
    Xg w0 wi rb kd bs ns xs vs ex vn vx (.slice (some ⟨g, 0, none⟩) m cap) m more W' := by
  obtain ⟨D, k, h⟩ := h
  have hs := h.size
  have hvl : ∀ b, vl.ownBlock = some b → bs ≤ b ∧ b < W.heap.size := h.own.lt
  have hD : ∀ b, D b → W'.heap[b]? = W.heap[b]? := fun b hb => by
    obtain ⟨d1, d2, d3, _⟩ := h.dom b hb
    exact hg.block b d2 (fun e => d3 e.symm)
  have hlow : ∀ b, b < bs → W'.heap[b]? = W.heap[b]? := fun b hb => hg.block b (by omega) (fun e => by have := (hvl b e.symm).1; omega)
  have hgb : w0.grownBy W' (some rb) := by
    have h2 := h.gr
    exact ⟨hg.os.trans h2.os, hg.tape.trans h2.tape, hg.output.trans h2.output, Nat.le_trans h2.size hg.size, fun b hb hne => (hlow b (by omega)).trans (h2.block b hb hne)⟩
  refine ⟨D, k, ⟨hgb, (hlow _ (by omega)).trans h.x, fun b h1 h2 h4 => (hlow b h1).trans (h.fr b h1 h2 h4), h.nm.kept hg ?_, hown, h.kidl, fun i h1 h2 => JVn.keep (fun _ h => h) hD _ _ _ (h.kid i h1 h2), fun p hp => JVn.keep (fun _ h => h) hD _ _ _ (h.exk p hp), ?_, ?_, Nat.le_trans hs hg.size⟩⟩
  · cases hb : vn.ownBlock with
    | none => exact .inl rfl
    | some b => exact .inr (fun e => h.ne b hb e.symm)
  · intro b hb
    obtain ⟨d1, d2, d3, d4⟩ := h.dom b hb
    refine ⟨d1, Nat.lt_of_lt_of_le d2 hg.size, fun e => ?_, d4⟩
    simp only [Value.ownBlock, Option.some.injEq] at e
    rcases hor with hor | hor
    · rw [← e] at d3; exact d3 hor
    · omega
  · intro b hb e
    simp only [Value.ownBlock, Option.some.injEq] at e
    rcases hor with hor | hor
    · exact h.ne b hb (by rw [hor, e])
    · have := (h.nm.lt b hb).2
      omega

/-- a cell of the row is written -/
theorem Xg.el {g cap m : Nat} (h : Xg w0 wi rb kd bs ns xs vs ex vn vx (.slice (some ⟨g, 0, none⟩) m cap) m cs W) (h3 : w0.heap.size + 3 ≤ bs) (h0 : rb < w0.heap.size) (i : Nat) (u : Value) :
    Xg w0 wi rb kd bs ns xs vs ex vn vx (.slice (some ⟨g, 0, none⟩) m cap) m (cs.set i u) (W.setCell ⟨g, i, none⟩ u) := by
  obtain ⟨D, k, h⟩ := h
  have hlt := h.own.lt g rfl
  have ho : ∀ b, b ≠ g → (W.setCell ⟨g, i, none⟩ u).heap[b]? = W.heap[b]? := fun b hb => heap_setCell_other W ⟨g, i, none⟩ b u hb
  have hsz : (W.setCell ⟨g, i, none⟩ u).heap.size = W.heap.size := by simp [World.setCell]
  have hst := h.own.stored i u
  have hD : ∀ b, D b → (W.setCell ⟨g, i, none⟩ u).heap[b]? = W.heap[b]? := fun b hb => ho b (fun e => (h.dom b hb).2.2.1 (by rw [e]; rfl))
  have hgr := h.gr
  refine ⟨D, k, ⟨⟨hgr.os, hgr.tape, hgr.output, by rw [hsz]; exact hgr.size, fun b hb hne => (ho b (by omega)).trans (hgr.block b hb hne)⟩, (ho _ (by omega)).trans h.x, fun b h1 h2 h4 => (ho b (by omega)).trans (h.fr b h1 h2 h4),
    h.nm.kept hst.2 ?_, hst.1, h.kidl, fun j h1 h2 => JVn.keep (fun _ h => h) hD _ _ _ (h.kid j h1 h2), fun p hp => JVn.keep (fun _ h => h) hD _ _ _ (h.exk p hp), fun b hb => by rw [hsz]; exact h.dom b hb, h.ne, by rw [hsz]; exact h.size⟩⟩
  cases hb : vn.ownBlock with
  | none => exact .inl rfl
  | some b => exact .inr (fun e => h.ne b hb (by cases e; rfl))
/-- the thing takes its row -/
theorem Xg.setx (h : Xg w0 wi rb kd bs ns xs vs ex vn vx vl n cs W) (h3 : w0.heap.size + 3 ≤ bs) (h0 : rb < w0.heap.size) (v : Value) :
    Xg w0 wi rb kd bs ns xs vs ex vn v vl n cs (W.setCell ⟨w0.heap.size + 2, 4, none⟩ v) := by
  obtain ⟨D, k, h⟩ := h
  have ho : ∀ b, b ≠ w0.heap.size + 2 → (W.setCell ⟨w0.heap.size + 2, 4, none⟩ v).heap[b]? = W.heap[b]? := fun b hb => heap_setCell_other W ⟨w0.heap.size + 2, 4, none⟩ b v hb
  have hsz : (W.setCell ⟨w0.heap.size + 2, 4, none⟩ v).heap.size = W.heap.size := by simp [World.setCell]
  have hg := gb_set (gb_of (r := some (w0.heap.size + 2)) (Below.refl W.heap.size W)) 4 v
  have hD : ∀ b, D b → (W.setCell ⟨w0.heap.size + 2, 4, none⟩ v).heap[b]? = W.heap[b]? := fun b hb => ho b (by have := (h.dom b hb).1; omega)
  have hne : ∀ (u : Value) (e : TypeId) (size m : Nat) (ys : List Value), W.ownsRow bs e size u m ys → (W.setCell ⟨w0.heap.size + 2, 4, none⟩ v).ownsRow bs e size u m ys := fun u e size m ys hv =>
    hv.kept hg (by
      cases hb : u.ownBlock with
      | none => exact .inl rfl
      | some g => exact .inr (fun e => by cases e; have := (hv.lt _ hb).1; omega))
  have hgr := h.gr
  exact ⟨D, k, ⟨⟨hgr.os, hgr.tape, hgr.output, by rw [hsz]; exact hgr.size, fun b hb hne => (ho b (by omega)).trans (hgr.block b hb hne)⟩, row_set h.x 4 v, fun b h1 h2 h4 => (ho b h4).trans (h.fr b h1 h2 h4),
    hne _ _ _ _ _ h.nm, hne _ _ _ _ _ h.own, h.kidl, fun j h1 h2 => JVn.keep (fun _ h => h) hD _ _ _ (h.kid j h1 h2), fun p hp => JVn.keep (fun _ h => h) hD _ _ _ (h.exk p hp), fun b hb => by rw [hsz]; exact h.dom b hb, h.ne, by rw [hsz]; exact h.size⟩⟩
theorem set5 (l : List Value) (m : Nat) (hm : l.length = m * 5) (z0 z1 z2 z3 z4 c0 c1 c2 c3 c4 : Value) :
    (((((l ++ [z0, z1, z2, z3, z4]).set (m * 5) c0).set (m * 5 + 1) c1).set (m * 5 + 2) c2).set (m * 5 + 3) c3).set (m * 5 + 4) c4 = l ++ [c0, c1, c2, c3, c4] := by
  rw [← hm]
  simp [List.set_append]
/-- one more thing -/
theorem Xg.done {g cap : Nat} {c0 c1 c2 c3 c4 z0 z1 z2 z3 z4 : Value} {j : Js.J}
    (h : Xg w0 wi rb kd bs ns xs vs [(.agg #[c0, c1, c2, c3, c4], j)] vn vx (.slice (some ⟨g, 0, none⟩) (xs.length + 1) cap) (xs.length + 1)
      ((((((vs.map c5).flatten ++ [z0, z1, z2, z3, z4]).set (xs.length * 5) c0).set (xs.length * 5 + 1) c1).set (xs.length * 5 + 2) c2).set (xs.length * 5 + 3) c3 |>.set (xs.length * 5 + 4) c4) W) :
    Xg w0 wi rb kd bs ns (xs ++ [j]) (vs ++ [.agg #[c0, c1, c2, c3, c4]]) [] vn vx (.slice (some ⟨g, 0, none⟩) (xs.length + 1) cap) (xs ++ [j]).length (((vs ++ [Value.agg #[c0, c1, c2, c3, c4]]).map c5).flatten) W := by
  obtain ⟨D, k, h⟩ := h
  have h5 : ∀ u ∈ vs, (c5 u).length = 5 := by
    intro u hu
    obtain ⟨i, hi, rfl⟩ := List.getElem_of_mem hu
    exact (h.kid i (by rw [← h.kidl]; exact hi) hi).len
  have hfl := flat5 vs h5
  have ho := h.own
  rw [set5 _ _ (by rw [hfl, h.kidl])] at ho
  have hk := KidsV.snoc (u := .agg #[c0, c1, c2, c3, c4]) (x := j) h.kidl h.kid (h.exk _ (List.mem_singleton.2 rfl)) ho
  exact ⟨D, k, ⟨h.gr, h.x, h.fr, h.nm, hk.own, hk.len, hk.kid, fun p hp => by simp at hp, h.dom, h.ne, h.size⟩⟩
end

end Go.Proofs.Ythbpkmmnoeikoaa

/-
  What a row's next thing leaves; the reader's thing by its contract. No condition.
-/
namespace Go.Proofs.Ythbpkmmnoeikoaa
open Go Go.RowKit
set_option linter.unusedVariables false
set_option linter.unusedSimpArgs false

/-- what the reader's thing comes to -/
def ThPost (rb : Nat) (s : ByteArray) (d : Int) (W : World) (r : Js.Re (Js.J × Tk.Tok)) (e : Ending) (W' : World) : Prop :=
  W.grownBy W' (some rb) ∧ ((∃ j t', r = .ok (j, t') ∧ ∃ v k, e = .returned v ∧ RdC W' rb s t' d ∧ JVn k (fun b => W.heap.size ≤ b ∧ b < W'.heap.size) W' v j) ∨ (∃ p, r = .error (some p) ∧ e = wrongE p))
/-- the reader's thing keeps its word -/
def ThOk (s : ByteArray) (d : Int) (th : Tk.Tok → Js.Re (Js.J × Tk.Tok)) : Prop :=
  ∀ (rb : Nat) (t : Tk.Tok) (W : World), RdC W rb s t d → t.end' ≤ s.size → Js.Fu (th t) → Calls Try.prog 48 #[.pointer (some ⟨rb, 0, none⟩)] W (ThPost rb s d W (th t))
/-- between two of a row's things -/
def LI (w0 wi : World) (rb : Nat) (kd : Int) (bs m : Nat) (q : Js.St) (W : World) : Prop :=
  q.2.length = m ∧ ∃ vs vn vl, Xg w0 wi rb kd bs q.1 q.2 vs [] vn vl vl q.2.length ((vs.map c5).flatten) W

theorem infoJson : (Try.prog.info? 41).map (fun i => (i.zero, i.size, i.bytes)) = some (some (.agg #[.int .i64 0, .int .i64 0, .string ⟨#[]⟩, .slice none 0 0, .slice none 0 0]), 5, 80) := by kernel_rfl
theorem RdC.below {W W' : World} {rb : Nat} {s : ByteArray} {t : Tk.Tok} {d : Int} (h : RdC W rb s t d) (hb : Below W.heap.size W W') : RdC W' rb s t d := (hb.block rb (Array.getElem?_eq_some_iff.1 h).1).trans h

theorem row_form {w : World} {base n size : Nat} {e : TypeId} {v : Value} {xs : List Value} (h : w.ownsRow base e size v n xs) : ∃ p c, v = .slice p n c := by
  rcases h.2 with ⟨rfl, rfl⟩ | ⟨g, cap, cur, rfl, _⟩
  · exact ⟨_, _, rfl⟩
  · exact ⟨_, _, rfl⟩
def zJ : Array Value := #[.int .i64 0, .int .i64 0, .string ⟨#[]⟩, .slice none 0 0, .slice none 0 0]
theorem nx_blk2 {w w1 : World} {c : Array Value} {t : TypeId} {rb : Nat} (hg : (w.alloc (.cells c t)).drew.grownBy w1 (some rb)) (hne : w.heap.size ≠ rb) : w1.heap[w.heap.size]? = some (.cells c t (0, 0)) :=
  (hg.block w.heap.size (by show _ < (w.alloc _).heap.size; simp) (fun e => hne (by cases e; rfl))).trans (heap_alloc_new w (.cells c t))

theorem JVn.form2 {k : Nat} {S : Nat → Prop} {W : World} {v : Value} {j : Js.J} (h : JVn k S W v j) : ∃ (a b : Int) (x : ByteArray) (p1 : Option Addr) (n1 q1 : Nat) (p2 : Option Addr) (n2 q2 : Nat), v = .agg #[.int .i64 a, .int .i64 b, .string x, .slice p1 n1 q1, .slice p2 n2 q2] := by
  cases k with
  | zero => exact h.elim
  | succ k =>
    obtain ⟨kd, n, s, ns, xs⟩ := j
    obtain ⟨vn, vl, rfl, ⟨p, c, rfl, _⟩, ⟨p', c', rfl, _⟩⟩ := h
    exact ⟨_, _, _, _, _, _, _, _, _, rfl⟩
theorem zbel (w1 : World) : Below w1.heap.size w1 (w1.alloc (.cells #[.int .i64 0, .int .i64 0, .string ⟨#[]⟩, .slice none 0 0, .slice none 0 0] 41)) := (Below.refl _ w1).alloc (Nat.le_refl _) _
section
variable {w0 wi W W' : World} {rb bs n : Nat} {kd : Int} {ns : List (List UInt8)} {xs : List Js.J} {vs : List Value} {ex : List (Value × Js.J)} {vn vx vl : Value} {cs : List Value}
theorem xg_own (h : Xg w0 wi rb kd bs ns xs vs ex vn vx vl n cs W) : W.ownsRow bs 41 5 vl n cs := by obtain ⟨D, k, h⟩ := h; exact h.own
theorem xg_size (h : Xg w0 wi rb kd bs ns xs vs ex vn vx vl n cs W) : bs ≤ W.heap.size := by obtain ⟨D, k, h⟩ := h; exact h.size
theorem xg_far (h : Xg w0 wi rb kd bs ns xs vs ex vn vx vl n cs W) (h0 : rb < w0.heap.size) (h3 : w0.heap.size + 3 ≤ bs) : some rb ≠ vl.ownBlock := by
  obtain ⟨D, k, h⟩ := h
  intro e
  have := (h.own.lt rb e.symm).1
  omega
theorem rd_set {s : ByteArray} {t : Tk.Tok} {d : Int} {b : Nat} (h : RdC W rb s t d) (hne : b ≠ rb) (i : Nat) (v : Value) : RdC (W.setCell ⟨b, i, none⟩ v) rb s t d := row_other h hne i v
theorem xg_x4 (h : Xg w0 wi rb kd bs ns xs vs ex vn vx vl n cs W) : W.cell? ⟨w0.heap.size + 2, 4, none⟩ = some vx := by
  obtain ⟨D, k, h⟩ := h
  exact (cell_of_row _ _ 4 _ _ (0, 0) h.x).trans rfl
theorem rd_app {s : ByteArray} {t : Tk.Tok} {d : Int} {row : Option Nat} (h : RdC W rb s t d) (hg : W.grownBy W' row) (hne : some rb ≠ row) : RdC W' rb s t d := (hg.block rb (Array.getElem?_eq_some_iff.1 h).1 hne).trans h
theorem xg_stores {g cap m : Nat} {z0 z1 z2 z3 z4 : Value} (h : Xg w0 wi rb kd bs ns xs vs ex vn vx (.slice (some ⟨g, 0, none⟩) (m + 1) cap) (m + 1) (cs ++ [z0, z1, z2, z3, z4]) W) (h3 : w0.heap.size + 3 ≤ bs) :
    W.cell? ⟨g, m * 5, none⟩ = some z0 ∧ W.cell? ⟨g, m * 5 + 1, none⟩ = some z1 ∧ W.cell? ⟨g, m * 5 + 2, none⟩ = some z2 ∧ W.cell? ⟨g, m * 5 + 3, none⟩ = some z3 ∧ W.cell? ⟨g, m * 5 + 4, none⟩ = some z4 ∧
    W.frozen? ⟨g, m * 5, none⟩ = false ∧ W.frozen? ⟨g, m * 5 + 1, none⟩ = false ∧ W.frozen? ⟨g, m * 5 + 2, none⟩ = false ∧ W.frozen? ⟨g, m * 5 + 3, none⟩ = false ∧ W.frozen? ⟨g, m * 5 + 4, none⟩ = false ∧
    g ≠ w0.heap.size + 2 ∧ W.cell? ⟨w0.heap.size + 2, 4, none⟩ = some vx ∧ W.frozen? ⟨w0.heap.size + 2, 4, none⟩ = false := by
  obtain ⟨D, k, h⟩ := h
  have ho := h.own
  have hl : cs.length = m * 5 := by have := ho.1; simp at this; omega
  have key : ∀ j, j < 5 → W.cell? ⟨g, m * 5 + j, none⟩ = [z0, z1, z2, z3, z4][j]? := fun j hj => by
    rw [ho.cellAt (m * 5 + j) (by omega), List.getElem?_append_right (by omega)]
    congr 1; omega
  have hg := (ho.lt g rfl).1
  exact ⟨key 0 (by omega), key 1 (by omega), key 2 (by omega), key 3 (by omega), key 4 (by omega), ho.frozenAt _, ho.frozenAt _, ho.frozenAt _, ho.frozenAt _, ho.frozenAt _, by omega, (cell_of_row _ _ 4 _ _ (0, 0) h.x).trans rfl, by
    have := h.x
    simp [World.frozen?, this]⟩
end

theorem oneL_fin {s : ByteArray} {rb : Nat} {t' : Tk.Tok} {d : Int} {w0 wi Wf : World} {kd : Int} {bs : Nat} {q : Js.St} {j : Js.J} {X : World → Prop} {vs' : List Value} {vn vl : Value} (hr : RdC Wf rb s t' d)
    (hX : Xg w0 wi rb kd bs q.1 (q.2 ++ [j]) vs' [] vn vl vl (q.2 ++ [j]).length ((vs'.map c5).flatten) Wf) :
    OnPost rb s d (LI w0 wi rb kd bs (q.2.length + 1)) X (.ok ((q.1, q.2 ++ [j]), t')) (.returned (.tuple #[])) Wf :=
  .inl ⟨(q.1, q.2 ++ [j]), t', rfl, rfl, hr, by simp, vs', vn, vl, hX⟩

end Go.Proofs.Ythbpkmmnoeikoaa
