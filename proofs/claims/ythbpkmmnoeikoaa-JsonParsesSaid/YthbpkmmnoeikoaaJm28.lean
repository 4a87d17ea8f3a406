/-
  Several texts in one, each with its own head below. Conditions: as each says.
-/
import Derived.Test.YthbpkmmnoeikoaaJm19
import Derived.Test.YthbpkmmnoeikoaaJsonSee2Jm
import Derived.Test.YthbpkmmnoeikoaaJm20
import Derived.Deep.CutBlock
/-
  What lies while the reference's thing is read: the result, the thing (block w0's size + 1), the token, its rows. No condition.
-/
namespace Go.Proofs.Ythbpkmmnoeikoaa
open Go Go.RowKit
set_option linter.unusedVariables false
set_option linter.unusedSimpArgs false

/-- vx: the row that the thing holds; vl, n, cs: the row that is the call's own; ex: values that lie besides; wi: the world to compare with -/
structure YgD (w0 wi : World) (rb : Nat) (kd : Int) (bs : Nat) (ns : List (List UInt8)) (xs : List Js.J) (vs : List Value) (ex : List (Value × Js.J)) (vn vx vl : Value) (n : Nat) (cs : List Value) (D : Nat → Prop) (k : Nat) (W : World) : Prop where
  gr : w0.grownBy W (some rb)
  x : W.heap[w0.heap.size + 1]? = some (.cells #[.int .i64 kd, .int .i64 0, .string ⟨#[]⟩, vn, vx] 41 (0, 0))
  fr : ∀ b, b < bs → b ≠ rb → b ≠ w0.heap.size + 1 → W.heap[b]? = wi.heap[b]?
  nm : W.ownsRow bs 9 1 vn ns.length (ns.map str)
  own : W.ownsRow bs 41 5 vl n cs
  kidl : vs.length = xs.length
  kid : ∀ i (h : i < xs.length) (h' : i < vs.length), JVn k D W vs[i] xs[i]
  exk : ∀ p ∈ ex, JVn k D W p.1 p.2
  dom : ∀ b, D b → bs ≤ b ∧ b < W.heap.size ∧ vl.ownBlock ≠ some b ∧ vn.ownBlock ≠ some b
  ne : ∀ b, vn.ownBlock = some b → vl.ownBlock ≠ some b
  size : bs ≤ W.heap.size
def Yg (w0 wi : World) (rb : Nat) (kd : Int) (bs : Nat) (ns : List (List UInt8)) (xs : List Js.J) (vs : List Value) (ex : List (Value × Js.J)) (vn vx vl : Value) (n : Nat) (cs : List Value) (W : World) : Prop :=
  ∃ D k, YgD w0 wi rb kd bs ns xs vs ex vn vx vl n cs D k W

section
variable {w0 wi W W' : World} {rb bs n : Nat} {kd : Int} {ns : List (List UInt8)} {xs : List Js.J} {vs : List Value} {ex : List (Value × Js.J)} {vn vx vl : Value} {cs : List Value}

/-- the reader goes on -/
theorem Yg.reader (h : Yg w0 wi rb kd bs ns xs vs ex vn vx vl n cs W) (hg : W.grownBy W' (some rb)) (h0 : rb < w0.heap.size) (h3 : w0.heap.size + 3 ≤ bs) : Yg w0 wi rb kd bs ns xs vs ex vn vx vl n cs W' := by
  obtain ⟨D, k, h⟩ := h
  have hD : ∀ b, D b → W'.heap[b]? = W.heap[b]? := fun b hb => by
    obtain ⟨d1, d2, _⟩ := h.dom b hb
    exact hg.block b d2 (fun e => by cases e; omega)
  have hne : ∀ (v : Value) (e : TypeId) (size m : Nat) (ys : List Value), W.ownsRow bs e size v m ys → W'.ownsRow bs e size v m ys := fun v e size m ys hv =>
    hv.kept hg (by
      cases hb : v.ownBlock with
      | none => exact .inl rfl
      | some g => exact .inr (fun e => by cases e; have := (hv.lt _ hb).1; omega))
  have hs := h.size
  exact ⟨D, k, ⟨h.gr.trans hg, (hg.block _ (by omega) (fun e => by cases e; omega)).trans h.x, fun b h1 h2 h4 => (hg.block b (by omega) (fun e => by cases e; exact h2 rfl)).trans (h.fr b h1 h2 h4), hne _ _ _ _ _ h.nm, hne _ _ _ _ _ h.own, h.kidl,
    fun i h1 h2 => JVn.keep (fun _ h => h) hD _ _ _ (h.kid i h1 h2), fun p hp => JVn.keep (fun _ h => h) hD _ _ _ (h.exk p hp), fun b hb => by
      obtain ⟨d1, d2, d3⟩ := h.dom b hb
      exact ⟨d1, Nat.lt_of_lt_of_le d2 hg.size, d3⟩, h.ne, Nat.le_trans hs hg.size⟩⟩
theorem Yg.below (h : Yg w0 wi rb kd bs ns xs vs ex vn vx vl n cs W) (hb : Below W.heap.size W W') (h0 : rb < w0.heap.size) (h3 : w0.heap.size + 3 ≤ bs) : Yg w0 wi rb kd bs ns xs vs ex vn vx vl n cs W' := h.reader (gb_of hb) h0 h3
/-- a thing is read -/
theorem Yg.call {I : Nat → Prop} {kc : Nat} {u : Value} {j : Js.J} (h : Yg w0 wi rb kd bs ns xs vs ex vn vx vl n cs W) (hg : W.grownBy W' (some rb)) (h0 : rb < w0.heap.size) (h3 : w0.heap.size + 3 ≤ bs)
    (hI : ∀ b, I b → W.heap.size ≤ b ∧ b < W'.heap.size) (hu : JVn kc I W' u j) : Yg w0 wi rb kd bs ns xs vs (ex ++ [(u, j)]) vn vx vl n cs W' := by
  have hlt : ∀ b, vl.ownBlock = some b → b < W.heap.size := fun b hb => by obtain ⟨D, k, h⟩ := h; exact (h.own.lt b hb).2
  have hlt2 : ∀ b, vn.ownBlock = some b → b < W.heap.size := fun b hb => by obtain ⟨D, k, h⟩ := h; exact (h.nm.lt b hb).2
  have hsz : bs ≤ W.heap.size := by obtain ⟨D, k, h⟩ := h; exact h.size
  obtain ⟨D, k, h⟩ := h.reader hg h0 h3
  refine ⟨fun b => D b ∨ I b, max k kc, ⟨h.gr, h.x, h.fr, h.nm, h.own, h.kidl, ?_, ?_, ?_, h.ne, h.size⟩⟩
  · exact fun i h1 h2 => JVn.le (Nat.le_max_left _ _) (JVn.keep (fun _ h => .inl h) (fun _ _ => rfl) _ _ _ (h.kid i h1 h2))
  · intro p hp
    rw [List.mem_append, List.mem_singleton] at hp
    rcases hp with hp | rfl
    · exact JVn.le (Nat.le_max_left _ _) (JVn.keep (fun _ h => .inl h) (fun _ _ => rfl) _ _ _ (h.exk p hp))
    · exact JVn.le (Nat.le_max_right _ _) (JVn.keep (fun _ h => .inr h) (fun _ _ => rfl) _ _ _ hu)
  · rintro b (hb | hb)
    · exact h.dom b hb
    · obtain ⟨i1, i2⟩ := hI b hb
      refine ⟨by omega, i2, fun e => ?_, fun e => ?_⟩
      · have := hlt b e; omega
      · have := hlt2 b e; omega
/-- room is made -/
theorem Yg.app {g cap m : Nat} {more : List Value} (h : Yg w0 wi rb kd bs ns xs vs ex vn vx vl n cs W) (h0 : rb < w0.heap.size) (h3 : w0.heap.size + 3 ≤ bs)
    (hown : W'.ownsRow bs 41 5 (.slice (some ⟨g, 0, none⟩) m cap) m more) (hg : W.grownBy W' vl.ownBlock) (hor : vl.ownBlock = some g ∨ g = W.heap.size) :
    Yg w0 wi rb kd bs ns xs vs ex vn vx (.slice (some ⟨g, 0, none⟩) m cap) m more W' := by
  obtain ⟨D, k, h⟩ := h
  have hs := h.size
  have hvl : ∀ b, vl.ownBlock = some b → bs ≤ b ∧ b < W.heap.size := h.own.lt
  have hD : ∀ b, D b → W'.heap[b]? = W.heap[b]? := fun b hb => by
    obtain ⟨d1, d2, d3, _⟩ := h.dom b hb
    exact hg.block b d2 (fun e => d3 e.symm)
  have hlow : ∀ b, b < bs → W'.heap[b]? = W.heap[b]? := fun b hb => hg.block b (by omega) (fun e => by have := (hvl b e.symm).1; omega)
  have hgb : w0.grownBy W' (some rb) := by
    have h2 := h.gr
    exact ⟨hg.os.trans h2.os, hg.tape.trans h2.tape, hg.output.trans h2.output, Nat.le_trans h2.size hg.size, fun b hb hne => (hlow b (by omega)).trans (h2.block b hb hne)⟩
  refine ⟨D, k, ⟨hgb, (hlow _ (by omega)).trans h.x, fun b h1 h2 h4 => (hlow b h1).trans (h.fr b h1 h2 h4), h.nm.kept hg ?_, hown, h.kidl, fun i h1 h2 => JVn.keep (fun _ h => h) hD _ _ _ (h.kid i h1 h2), fun p hp => JVn.keep (fun _ h => h) hD _ _ _ (h.exk p hp), ?_, ?_, Nat.le_trans hs hg.size⟩⟩
  · cases hb : vn.ownBlock with
    | none => exact .inl rfl
    | some b => exact .inr (fun e => h.ne b hb e.symm)
  · intro b hb
    obtain ⟨d1, d2, d3, d4⟩ := h.dom b hb
    refine ⟨d1, Nat.lt_of_lt_of_le d2 hg.size, fun e => ?_, d4⟩
    simp only [Value.ownBlock, Option.some.injEq] at e
    rcases hor with hor | hor
    · rw [← e] at d3; exact d3 hor
    · omega
  · intro b hb e
    simp only [Value.ownBlock, Option.some.injEq] at e
    rcases hor with hor | hor
    · exact h.ne b hb (by rw [hor, e])
    · have := (h.nm.lt b hb).2
      omega

/-- a cell of the row is written -/
theorem Yg.el {g cap m : Nat} (h : Yg w0 wi rb kd bs ns xs vs ex vn vx (.slice (some ⟨g, 0, none⟩) m cap) m cs W) (h3 : w0.heap.size + 3 ≤ bs) (h0 : rb < w0.heap.size) (i : Nat) (u : Value) :
    Yg w0 wi rb kd bs ns xs vs ex vn vx (.slice (some ⟨g, 0, none⟩) m cap) m (cs.set i u) (W.setCell ⟨g, i, none⟩ u) := by
  obtain ⟨D, k, h⟩ := h
  have hlt := h.own.lt g rfl
  have ho : ∀ b, b ≠ g → (W.setCell ⟨g, i, none⟩ u).heap[b]? = W.heap[b]? := fun b hb => heap_setCell_other W ⟨g, i, none⟩ b u hb
  have hsz : (W.setCell ⟨g, i, none⟩ u).heap.size = W.heap.size := by simp [World.setCell]
  have hst := h.own.stored i u
  have hD : ∀ b, D b → (W.setCell ⟨g, i, none⟩ u).heap[b]? = W.heap[b]? := fun b hb => ho b (fun e => (h.dom b hb).2.2.1 (by rw [e]; rfl))
  have hgr := h.gr
  refine ⟨D, k, ⟨⟨hgr.os, hgr.tape, hgr.output, by rw [hsz]; exact hgr.size, fun b hb hne => (ho b (by omega)).trans (hgr.block b hb hne)⟩, (ho _ (by omega)).trans h.x, fun b h1 h2 h4 => (ho b (by omega)).trans (h.fr b h1 h2 h4),
    h.nm.kept hst.2 ?_, hst.1, h.kidl, fun j h1 h2 => JVn.keep (fun _ h => h) hD _ _ _ (h.kid j h1 h2), fun p hp => JVn.keep (fun _ h => h) hD _ _ _ (h.exk p hp), fun b hb => by rw [hsz]; exact h.dom b hb, h.ne, by rw [hsz]; exact h.size⟩⟩
  cases hb : vn.ownBlock with
  | none => exact .inl rfl
  | some b => exact .inr (fun e => h.ne b hb (by cases e; rfl))
/-- the thing takes its row -/
theorem Yg.setx (h : Yg w0 wi rb kd bs ns xs vs ex vn vx vl n cs W) (h3 : w0.heap.size + 3 ≤ bs) (h0 : rb < w0.heap.size) (v : Value) :
    Yg w0 wi rb kd bs ns xs vs ex vn v vl n cs (W.setCell ⟨w0.heap.size + 1, 4, none⟩ v) := by
  obtain ⟨D, k, h⟩ := h
  have ho : ∀ b, b ≠ w0.heap.size + 1 → (W.setCell ⟨w0.heap.size + 1, 4, none⟩ v).heap[b]? = W.heap[b]? := fun b hb => heap_setCell_other W ⟨w0.heap.size + 1, 4, none⟩ b v hb
  have hsz : (W.setCell ⟨w0.heap.size + 1, 4, none⟩ v).heap.size = W.heap.size := by simp [World.setCell]
  have hg := gb_set (gb_of (r := some (w0.heap.size + 1)) (Below.refl W.heap.size W)) 4 v
  have hD : ∀ b, D b → (W.setCell ⟨w0.heap.size + 1, 4, none⟩ v).heap[b]? = W.heap[b]? := fun b hb => ho b (by have := (h.dom b hb).1; omega)
  have hne : ∀ (u : Value) (e : TypeId) (size m : Nat) (ys : List Value), W.ownsRow bs e size u m ys → (W.setCell ⟨w0.heap.size + 1, 4, none⟩ v).ownsRow bs e size u m ys := fun u e size m ys hv =>
    hv.kept hg (by
      cases hb : u.ownBlock with
      | none => exact .inl rfl
      | some g => exact .inr (fun e => by cases e; have := (hv.lt _ hb).1; omega))
  have hgr := h.gr
  exact ⟨D, k, ⟨⟨hgr.os, hgr.tape, hgr.output, by rw [hsz]; exact hgr.size, fun b hb hne => (ho b (by omega)).trans (hgr.block b hb hne)⟩, row_set h.x 4 v, fun b h1 h2 h4 => (ho b h4).trans (h.fr b h1 h2 h4),
    hne _ _ _ _ _ h.nm, hne _ _ _ _ _ h.own, h.kidl, fun j h1 h2 => JVn.keep (fun _ h => h) hD _ _ _ (h.kid j h1 h2), fun p hp => JVn.keep (fun _ h => h) hD _ _ _ (h.exk p hp), fun b hb => by rw [hsz]; exact h.dom b hb, h.ne, by rw [hsz]; exact h.size⟩⟩
/-- one more thing -/
theorem Yg.done {g cap : Nat} {c0 c1 c2 c3 c4 z0 z1 z2 z3 z4 : Value} {j : Js.J}
    (h : Yg w0 wi rb kd bs ns xs vs [(.agg #[c0, c1, c2, c3, c4], j)] vn vx (.slice (some ⟨g, 0, none⟩) (xs.length + 1) cap) (xs.length + 1)
      ((((((vs.map c5).flatten ++ [z0, z1, z2, z3, z4]).set (xs.length * 5) c0).set (xs.length * 5 + 1) c1).set (xs.length * 5 + 2) c2).set (xs.length * 5 + 3) c3 |>.set (xs.length * 5 + 4) c4) W) :
    Yg w0 wi rb kd bs ns (xs ++ [j]) (vs ++ [.agg #[c0, c1, c2, c3, c4]]) [] vn vx (.slice (some ⟨g, 0, none⟩) (xs.length + 1) cap) (xs ++ [j]).length (((vs ++ [Value.agg #[c0, c1, c2, c3, c4]]).map c5).flatten) W := by
  obtain ⟨D, k, h⟩ := h
  have h5 : ∀ u ∈ vs, (c5 u).length = 5 := by
    intro u hu
    obtain ⟨i, hi, rfl⟩ := List.getElem_of_mem hu
    exact (h.kid i (by rw [← h.kidl]; exact hi) hi).len
  have hfl := flat5 vs h5
  have ho := h.own
  rw [set5 _ _ (by rw [hfl, h.kidl])] at ho
  have hk := KidsV.snoc (u := .agg #[c0, c1, c2, c3, c4]) (x := j) h.kidl h.kid (h.exk _ (List.mem_singleton.2 rfl)) ho
  exact ⟨D, k, ⟨h.gr, h.x, h.fr, h.nm, hk.own, hk.len, hk.kid, fun p hp => by simp at hp, h.dom, h.ne, h.size⟩⟩
end

/-- between two of a row's things -/
def YI (w0 wi : World) (rb : Nat) (kd : Int) (bs m : Nat) (q : Js.St) (W : World) : Prop :=
  q.2.length = m ∧ ∃ vs vn vl, Yg w0 wi rb kd bs q.1 q.2 vs [] vn vl vl q.2.length ((vs.map c5).flatten) W

section
variable {w0 wi W W' : World} {rb bs n : Nat} {kd : Int} {ns : List (List UInt8)} {xs : List Js.J} {vs : List Value} {ex : List (Value × Js.J)} {vn vx vl : Value} {cs : List Value}
theorem yg_own (h : Yg w0 wi rb kd bs ns xs vs ex vn vx vl n cs W) : W.ownsRow bs 41 5 vl n cs := by obtain ⟨D, k, h⟩ := h; exact h.own
theorem yg_size (h : Yg w0 wi rb kd bs ns xs vs ex vn vx vl n cs W) : bs ≤ W.heap.size := by obtain ⟨D, k, h⟩ := h; exact h.size
theorem yg_far (h : Yg w0 wi rb kd bs ns xs vs ex vn vx vl n cs W) (h0 : rb < w0.heap.size) (h3 : w0.heap.size + 3 ≤ bs) : some rb ≠ vl.ownBlock := by
  obtain ⟨D, k, h⟩ := h
  intro e
  have := (h.own.lt rb e.symm).1
  omega
theorem yg_x4 (h : Yg w0 wi rb kd bs ns xs vs ex vn vx vl n cs W) : W.cell? ⟨w0.heap.size + 1, 4, none⟩ = some vx := by
  obtain ⟨D, k, h⟩ := h
  exact (cell_of_row _ _ 4 _ _ (0, 0) h.x).trans rfl
theorem yg_stores {g cap m : Nat} {z0 z1 z2 z3 z4 : Value} (h : Yg w0 wi rb kd bs ns xs vs ex vn vx (.slice (some ⟨g, 0, none⟩) (m + 1) cap) (m + 1) (cs ++ [z0, z1, z2, z3, z4]) W) (h3 : w0.heap.size + 3 ≤ bs) :
    W.cell? ⟨g, m * 5, none⟩ = some z0 ∧ W.cell? ⟨g, m * 5 + 1, none⟩ = some z1 ∧ W.cell? ⟨g, m * 5 + 2, none⟩ = some z2 ∧ W.cell? ⟨g, m * 5 + 3, none⟩ = some z3 ∧ W.cell? ⟨g, m * 5 + 4, none⟩ = some z4 ∧
    W.frozen? ⟨g, m * 5, none⟩ = false ∧ W.frozen? ⟨g, m * 5 + 1, none⟩ = false ∧ W.frozen? ⟨g, m * 5 + 2, none⟩ = false ∧ W.frozen? ⟨g, m * 5 + 3, none⟩ = false ∧ W.frozen? ⟨g, m * 5 + 4, none⟩ = false ∧
    g ≠ w0.heap.size + 1 ∧ W.cell? ⟨w0.heap.size + 1, 4, none⟩ = some vx ∧ W.frozen? ⟨w0.heap.size + 1, 4, none⟩ = false := by
  obtain ⟨D, k, h⟩ := h
  have ho := h.own
  have hl : cs.length = m * 5 := by have := ho.1; simp at this; omega
  have key : ∀ j, j < 5 → W.cell? ⟨g, m * 5 + j, none⟩ = [z0, z1, z2, z3, z4][j]? := fun j hj => by
    rw [ho.cellAt (m * 5 + j) (by omega), List.getElem?_append_right (by omega)]
    congr 1; omega
  have hg := (ho.lt g rfl).1
  exact ⟨key 0 (by omega), key 1 (by omega), key 2 (by omega), key 3 (by omega), key 4 (by omega), ho.frozenAt _, ho.frozenAt _, ho.frozenAt _, ho.frozenAt _, ho.frozenAt _, by omega, (cell_of_row _ _ 4 _ _ (0, 0) h.x).trans rfl, by
    have := h.x
    simp [World.frozen?, this]⟩
theorem Yg.base (h : Yg w0 wi rb kd bs ns xs vs ex vn vx vl n cs W) : Yg w0 W rb kd bs ns xs vs ex vn vx vl n cs W := by
  obtain ⟨D, k, h⟩ := h
  exact ⟨D, k, ⟨h.gr, h.x, fun _ _ _ _ => rfl, h.nm, h.own, h.kidl, h.kid, h.exk, h.dom, h.ne, h.size⟩⟩
/-- a block of the frame is written -/
theorem Yg.low {c : Nat} (h : Yg w0 wi rb kd bs ns xs vs ex vn vx vl n cs W) (hg : W.grownBy W' (some c)) (h1 : w0.heap.size + 3 ≤ c) (h2 : c < bs) (h0 : rb < w0.heap.size) : Yg w0 W' rb kd bs ns xs vs ex vn vx vl n cs W' := by
  obtain ⟨D, k, h⟩ := h
  have hs := h.size
  have hD : ∀ b, D b → W'.heap[b]? = W.heap[b]? := fun b hb => by
    obtain ⟨d1, d2, _⟩ := h.dom b hb
    exact hg.block b d2 (fun e => by cases e; omega)
  have hne : ∀ (v : Value) (e : TypeId) (size m : Nat) (ys : List Value), W.ownsRow bs e size v m ys → W'.ownsRow bs e size v m ys := fun v e size m ys hv =>
    hv.kept hg (by
      cases hb : v.ownBlock with
      | none => exact .inl rfl
      | some g => exact .inr (fun e => by cases e; have := (hv.lt _ hb).1; omega))
  have hgr := h.gr
  refine ⟨D, k, ⟨⟨hg.os.trans hgr.os, hg.tape.trans hgr.tape, hg.output.trans hgr.output, Nat.le_trans hgr.size hg.size, fun b hb hx => (hg.block b (by omega) (fun e => by cases e; omega)).trans (hgr.block b hb hx)⟩, (hg.block _ (by omega) (fun e => by cases e; omega)).trans h.x, fun _ _ _ _ => rfl,
    hne _ _ _ _ _ h.nm, hne _ _ _ _ _ h.own, h.kidl, fun i h1 h2 => JVn.keep (fun _ h => h) hD _ _ _ (h.kid i h1 h2), fun p hp => JVn.keep (fun _ h => h) hD _ _ _ (h.exk p hp), fun b hb => by
      obtain ⟨d1, d2, d3⟩ := h.dom b hb
      exact ⟨d1, Nat.lt_of_lt_of_le d2 hg.size, d3⟩, h.ne, Nat.le_trans hs hg.size⟩⟩
/-- a name more -/
theorem Yg.names {g cap : Nat} {a : List UInt8} (h : Yg w0 wi rb kd bs ns xs vs ex vn vx vl n cs W) (h0 : rb < w0.heap.size) (h3 : w0.heap.size + 3 ≤ bs)
    (hown : W'.ownsRow bs 9 1 (.slice (some ⟨g, 0, none⟩) (ns.length + 1) cap) (ns.length + 1) (ns.map str ++ [str a])) (hg : W.grownBy W' vn.ownBlock) (hor : vn.ownBlock = some g ∨ g = W.heap.size) :
    Yg w0 wi rb kd bs (ns ++ [a]) xs vs ex (.slice (some ⟨g, 0, none⟩) (ns.length + 1) cap) vx vl n cs (W'.setCell ⟨w0.heap.size + 1, 3, none⟩ (.slice (some ⟨g, 0, none⟩) (ns.length + 1) cap)) := by
  obtain ⟨D, k, h⟩ := h
  have hs := h.size
  have hvn : ∀ b, vn.ownBlock = some b → bs ≤ b ∧ b < W.heap.size := h.nm.lt
  have hD : ∀ b, D b → W'.heap[b]? = W.heap[b]? := fun b hb => by
    obtain ⟨d1, d2, _, d4⟩ := h.dom b hb
    exact hg.block b d2 (fun e => d4 e.symm)
  have hlow : ∀ b, b < bs → W'.heap[b]? = W.heap[b]? := fun b hb => hg.block b (by omega) (fun e => by have := (hvn b e.symm).1; omega)
  have hx' : W'.heap[w0.heap.size + 1]? = _ := (hlow _ (by omega)).trans h.x
  have ho : ∀ b, b ≠ w0.heap.size + 1 → (W'.setCell ⟨w0.heap.size + 1, 3, none⟩ (.slice (some ⟨g, 0, none⟩) (ns.length + 1) cap)).heap[b]? = W'.heap[b]? := fun b hb => heap_setCell_other W' ⟨w0.heap.size + 1, 3, none⟩ b _ hb
  have hsz : (W'.setCell ⟨w0.heap.size + 1, 3, none⟩ (.slice (some ⟨g, 0, none⟩) (ns.length + 1) cap)).heap.size = W'.heap.size := by simp [World.setCell]
  have hg2 := gb_set (gb_of (r := some (w0.heap.size + 1)) (Below.refl W'.heap.size W')) 3 (.slice (some ⟨g, 0, none⟩) (ns.length + 1) cap)
  have hne : ∀ (u : Value) (e : TypeId) (size m : Nat) (ys : List Value), W'.ownsRow bs e size u m ys → (W'.setCell ⟨w0.heap.size + 1, 3, none⟩ (.slice (some ⟨g, 0, none⟩) (ns.length + 1) cap)).ownsRow bs e size u m ys := fun u e size m ys hv =>
    hv.kept hg2 (by
      cases hb : u.ownBlock with
      | none => exact .inl rfl
      | some g => exact .inr (fun e => by cases e; have := (hv.lt _ hb).1; omega))
  have hgr := h.gr
  have hgs := hg.size
  have hD2 : ∀ b, D b → (W'.setCell ⟨w0.heap.size + 1, 3, none⟩ (.slice (some ⟨g, 0, none⟩) (ns.length + 1) cap)).heap[b]? = W.heap[b]? := fun b hb => (ho b (by have := (h.dom b hb).1; omega)).trans (hD b hb)
  refine ⟨D, k, ⟨⟨hg.os.trans hgr.os, hg.tape.trans hgr.tape, hg.output.trans hgr.output, by rw [hsz]; exact Nat.le_trans hgr.size hgs, fun b hb hx => (ho b (by omega)).trans ((hlow b (by omega)).trans (hgr.block b hb hx))⟩, row_set hx' 3 _,
    fun b h1 h2 h4 => (ho b h4).trans ((hlow b h1).trans (h.fr b h1 h2 h4)), ?_, hne _ _ _ _ _ (h.own.kept hg ?_), h.kidl, fun i h1 h2 => JVn.keep (fun _ h => h) hD2 _ _ _ (h.kid i h1 h2), fun p hp => JVn.keep (fun _ h => h) hD2 _ _ _ (h.exk p hp), ?_, ?_, by rw [hsz]; omega⟩⟩
  · rw [List.length_append, List.length_singleton, List.map_append]
    exact hne _ _ _ _ _ hown
  · cases hb : vl.ownBlock with
    | none => exact .inl rfl
    | some b => exact .inr (fun e => h.ne b e.symm hb)
  · intro b hb
    obtain ⟨d1, d2, d3, d4⟩ := h.dom b hb
    refine ⟨d1, by rw [hsz]; omega, d3, fun e => ?_⟩
    simp only [Value.ownBlock, Option.some.injEq] at e
    rcases hor with hor | hor
    · rw [← e] at d4; exact d4 hor
    · omega
  · intro b hb e
    simp only [Value.ownBlock, Option.some.injEq] at hb
    subst hb
    rcases hor with hor | hor
    · exact h.ne _ hor e
    · have := (h.own.lt _ e).2
      omega
theorem yg_nm (h : Yg w0 wi rb kd bs ns xs vs ex vn vx vl n cs W) : W.ownsRow bs 9 1 vn ns.length (ns.map str) := by obtain ⟨D, k, h⟩ := h; exact h.nm
theorem yg_x3 (h : Yg w0 wi rb kd bs ns xs vs ex vn vx vl n cs W) : W.cell? ⟨w0.heap.size + 1, 3, none⟩ = some vn := by
  obtain ⟨D, k, h⟩ := h
  exact (cell_of_row _ _ 3 _ _ (0, 0) h.x).trans rfl
theorem yg_x3n (h : Yg w0 wi rb kd bs ns xs vs ex vn vx vl n cs W) (h3 : w0.heap.size + 3 ≤ bs) (hg : W.grownBy W' vn.ownBlock) : W'.cell? ⟨w0.heap.size + 1, 3, none⟩ = some vn ∧ W'.frozen? ⟨w0.heap.size + 1, 3, none⟩ = false := by
  obtain ⟨D, k, h⟩ := h
  have hs := h.size
  have hx : W'.heap[w0.heap.size + 1]? = _ := (hg.block _ (by omega) (fun e => by have := (h.nm.lt _ e.symm).1; omega)).trans h.x
  exact ⟨(cell_of_row _ _ 3 _ _ (0, 0) hx).trans rfl, by simp [World.frozen?, hx]⟩
theorem yg_gr (h : Yg w0 wi rb kd bs ns xs vs ex vn vx vl n cs W) : w0.grownBy W (some rb) := by obtain ⟨D, k, h⟩ := h; exact h.gr
end
theorem yg_x {w0 wi W : World} {rb bs n : Nat} {kd : Int} {ns : List (List UInt8)} {xs : List Js.J} {vs : List Value} {ex : List (Value × Js.J)} {vn vx vl : Value} {cs : List Value} (h : Yg w0 wi rb kd bs ns xs vs ex vn vx vl n cs W) :
    W.heap[w0.heap.size + 1]? = some (.cells #[.int .i64 kd, .int .i64 0, .string ⟨#[]⟩, vn, vx] 41 (0, 0)) := by
  obtain ⟨D, k, h⟩ := h
  exact h.x
theorem Yg.start {w W0 : World} {rb bs : Nat} {kd : Int} (hb : Below w.heap.size w W0) (hx : W0.heap[w.heap.size + 1]? = some (.cells #[.int .i64 kd, .int .i64 0, .string ⟨#[]⟩, .slice none 0 0, .slice none 0 0] 41 (0, 0))) (hs : bs ≤ W0.heap.size) :
    Yg w W0 rb kd bs [] [] [] [] (.slice none 0 0) (.slice none 0 0) (.slice none 0 0) 0 [] W0 :=
  ⟨fun _ => False, 0, ⟨gb_of hb, hx, fun _ _ _ _ => rfl, World.ownsRow_nil _ _ _ _, World.ownsRow_nil _ _ _ _, rfl, fun i h => by simp at h, fun p hp => by simp at hp, fun _ h => h.elim, fun _ h => by simp [Value.ownBlock] at h, hs⟩⟩

/-- behind the last token: the thing, with its rows, lies in block w's size -/
theorem yode_end {w wi w3 : World} {rb bs : Nat} {s : ByteArray} {t' : Tk.Tok} {a er kd : Int} {q : Js.St} {vs : List Value} {vn vl z0 z1 z2 z3 z4 : Value} (h0 : rb < w.heap.size) (h3 : w.heap.size + 3 ≤ bs)
    (hX : Yg w wi rb kd bs q.1 q.2 vs [] vn vl vl q.2.length ((vs.map c5).flatten) w3) (hr : SeC w3 rb s a er t') (hres : w3.heap[w.heap.size]? = some (.cells #[z0, z1, z2, z3, z4] 41 (0, 0))) :
    ∃ wf, wf = ((((w3.setCell ⟨w.heap.size, 0, none⟩ (.int .i64 kd)).setCell ⟨w.heap.size, 1, none⟩ (.int .i64 0)).setCell ⟨w.heap.size, 2, none⟩ (.string ⟨#[]⟩)).setCell ⟨w.heap.size, 3, none⟩ vn).setCell ⟨w.heap.size, 4, none⟩ vl ∧
      wf.heap[w.heap.size]? = some (.cells #[.int .i64 kd, .int .i64 0, .string ⟨#[]⟩, vn, vl] 41 (0, 0)) ∧ w.grownBy wf (some rb) ∧ SeC wf rb s a er t' ∧
      ∃ k, JVn k (fun b => w.heap.size ≤ b ∧ b < wf.heap.size) wf (.agg #[.int .i64 kd, .int .i64 0, .string ⟨#[]⟩, vn, vl]) (.mk kd 0 [] q.1 q.2) := by
  obtain ⟨D, k, hX⟩ := hX
  have hg := hX.gr
  have hb := tok_below5 w3 (w.heap.size) (.int .i64 kd) (.int .i64 0) (.string ⟨#[]⟩) vn vl
  have ho : ∀ b, b ≠ w.heap.size → (((((w3.setCell ⟨w.heap.size, 0, none⟩ (.int .i64 kd)).setCell ⟨w.heap.size, 1, none⟩ (.int .i64 0)).setCell ⟨w.heap.size, 2, none⟩ (.string ⟨#[]⟩)).setCell ⟨w.heap.size, 3, none⟩ vn).setCell ⟨w.heap.size, 4, none⟩ vl).heap[b]? = w3.heap[b]? := fun b hb =>
    (heap_setCell_other _ ⟨w.heap.size, 4, none⟩ b _ hb).trans ((heap_setCell_other _ ⟨w.heap.size, 3, none⟩ b _ hb).trans ((heap_setCell_other _ ⟨w.heap.size, 2, none⟩ b _ hb).trans ((heap_setCell_other _ ⟨w.heap.size, 1, none⟩ b _ hb).trans (heap_setCell_other _ ⟨w.heap.size, 0, none⟩ b _ hb))))
  refine ⟨_, rfl, row_set (row_set (row_set (row_set (row_set hres 0 _) 1 _) 2 _) 3 _) 4 _, ⟨hb.os.trans hg.os, hb.tape.trans hg.tape, hb.output.trans hg.output, Nat.le_trans hg.size hb.size, fun k hk hne => (hb.block k (by omega)).trans (hg.block k hk hne)⟩, (hb.block rb (by omega)).trans hr, k + 1, ?_⟩
  have hn := names_own (S := fun b => bs ≤ b ∧ b < w3.heap.size) hX.nm (fun b hb => hX.nm.lt b hb)
  have hi := KidsV.items (S' := fun b => bs ≤ b ∧ b < w3.heap.size) (⟨hX.kidl, hX.own, hX.kid⟩ : KidsV k D w3 bs vl q.2 vs) (fun b hb => ⟨(hX.dom b hb).1, (hX.dom b hb).2.1⟩) (fun b hb => hX.own.lt b hb)
  have hj : JVn (k + 1) (fun b => bs ≤ b ∧ b < w3.heap.size) w3 (.agg #[.int .i64 kd, .int .i64 0, .string ⟨#[]⟩, vn, vl]) (.mk kd 0 [] q.1 q.2) := ⟨vn, vl, rfl, hn, hi⟩
  exact JVn.keep (fun b h => ⟨by omega, Nat.lt_of_lt_of_le h.2 hb.size⟩) (fun b h => ho b (by omega)) _ _ _ hj

theorem se_app {W W' : World} {rb : Nat} {s : ByteArray} {a er : Int} {t : Tk.Tok} {row : Option Nat} (h : SeC W rb s a er t) (hg : W.grownBy W' row) (hne : some rb ≠ row) : SeC W' rb s a er t := (hg.block rb (Array.getElem?_eq_some_iff.1 h).1 hne).trans h
theorem se_set {W : World} {rb : Nat} {s : ByteArray} {a er : Int} {t : Tk.Tok} {b : Nat} (h : SeC W rb s a er t) (hne : b ≠ rb) (i : Nat) (v : Value) : SeC (W.setCell ⟨b, i, none⟩ v) rb s a er t := row_other h hne i v
theorem se_below {W W' : World} {rb : Nat} {s : ByteArray} {a er : Int} {t : Tk.Tok} (h : SeC W rb s a er t) (hb : Below W.heap.size W W') : SeC W' rb s a er t := (hb.block rb (Array.getElem?_eq_some_iff.1 h).1).trans h

end Go.Proofs.Ythbpkmmnoeikoaa

/-
  The reference's reader, round by round: what is left to read where it stands; step and fail said so. Condition: a text shorter than 2^32 - 15 bytes.
-/
namespace Go.Proofs.Ythbpkmmnoeikoaa.Js
set_option linter.unusedVariables false
set_option linter.unusedSimpArgs false

def bd {α β : Type} (x : Re α) (f : α → Re β) : Re β := match x with | .error e => .error e | .ok p => f p
theorem bd_assoc {α β γ : Type} (x : Re α) (f : α → Re β) (g : β → Re γ) : bd (bd x f) g = bd x (fun p => bd (f p) g) := by cases x <;> rfl
def pre (o : Bool) (l : F) (ns : List F) (t : Tk.Tok) : Re (List F × Tk.Tok) := if o = true then key l ns t else .ok (ns, t)
def oneX (o : Bool) (l : F) (th : Tk.Tok → Re (J × Tk.Tok)) (q : St) (t : Tk.Tok) : Re (St × Tk.Tok) := bd (pre o l q.1 t) (fun k => bd (th k.2) (fun p => .ok ((k.1, q.2 ++ [p.1]), p.2)))
theorem oneX_L (l : F) (th : Tk.Tok → Re (J × Tk.Tok)) : oneX false l th = oneL th := by
  funext q t
  unfold oneX pre oneL
  rw [if_neg (by simp)]
  unfold bd
  dsimp only
  cases h : th t <;> rfl
theorem oneX_O (l : F) (th : Tk.Tok → Re (J × Tk.Tok)) : oneX true l th = oneO l th := by
  funext q t
  unfold oneX pre oneO
  rw [if_pos rfl]
  unfold bd
  cases h : key l q.1 t with
  | error e => rfl
  | ok k =>
    dsimp only
    cases h2 : th k.2 <;> rfl
section
variable {β : Type} (o : Bool) (l : F) (th : Tk.Tok → Re (J × Tk.Tok)) (cl : Nat) (C : St × Tk.Tok → Re β)
/-- at the loop's head, n things read -/
def stA (n : Nat) (q : St) (t : Tk.Tok) : Re β := if n ≤ l.length + 2 then bd (if n = 0 then (if t.kind = cl then .ok (q, t) else rowG l (oneX o l th) (l.length + 2) q t) else rowT l (oneX o l th) (l.length + 2 - n) q t) C else .error none
/-- ahead of the next -/
def stB (n : Nat) (q : St) (t : Tk.Tok) : Re β := bd (rowG l (oneX o l th) (l.length + 2 - n) q t) C
/-- its name is read -/
def stC (n : Nat) (ns : List F) (xs : List J) (t : Tk.Tok) : Re β := bd (th t) (fun p => stA o l th cl C (n + 1) (ns, xs ++ [p.1]) p.2)
end
section
variable {β : Type} {o : Bool} {l : F} {th : Tk.Tok → Re (J × Tk.Tok)} {cl : Nat} {C : St × Tk.Tok → Re β} {n : Nat} {q : St} {t : Tk.Tok}
theorem stA_out {R : Re β} (h : R = stA o l th cl C n q t) (hF : Fu R) : n ≤ l.length + 2 := by
  by_cases hn : n ≤ l.length + 2
  · exact hn
  · unfold stA at h
    rw [if_neg hn] at h
    exact absurd h hF
theorem stA_close (h : t.kind = cl) : stA o l th cl C 0 q t = C (q, t) := by unfold stA; rw [if_pos (Nat.zero_le _), if_pos rfl, if_pos h]; rfl
theorem stA_first (h : t.kind ≠ cl) : stA o l th cl C 0 q t = stB o l th C 0 q t := by unfold stA stB; rw [if_pos (Nat.zero_le _), if_pos rfl, if_neg h]; rfl
theorem stA_more (hn : n ≤ l.length + 2) (h0 : n ≠ 0) (h : t.kind = 6) : stA o l th cl C n q t = bd (nx l t) (fun t3 => stB o l th C n q t3) := by
  unfold stA stB
  rw [if_pos hn, if_neg h0]
  unfold rowT
  rw [if_pos h]
  cases nx l t <;> rfl
theorem stA_end (hn : n ≤ l.length + 2) (h0 : n ≠ 0) (h : t.kind ≠ 6) : stA o l th cl C n q t = C (q, t) := by
  unfold stA
  rw [if_pos hn, if_neg h0]
  unfold rowT
  rw [if_neg h]
  rfl
theorem stB_out (h : ¬ n < l.length + 2) : stB o l th C n q t = .error none := by
  unfold stB
  rw [show l.length + 2 - n = 0 by omega]
  rfl
theorem stB_one (cl : Nat) (h : n < l.length + 2) : stB o l th C n q t = bd (pre o l q.1 t) (fun k => stC o l th cl C n k.1 q.2 k.2) := by
  unfold stB stC stA
  rw [show l.length + 2 - n = (l.length + 2 - (n + 1)) + 1 by omega, rowG_succ]
  cases hp : pre o l q.1 t with
  | error e =>
    have ho : oneX o l th q t = .error e := by unfold oneX; rw [hp]; rfl
    rw [ho]
    rfl
  | ok k =>
    have hb : ∀ g : List F × Tk.Tok → Re β, bd (Except.ok k : Re (List F × Tk.Tok)) g = g k := fun g => rfl
    rw [hb]
    cases ht : th k.2 with
    | error e =>
      have ho : oneX o l th q t = .error e := by
        unfold oneX; rw [hp]; unfold bd; dsimp only; rw [ht]
      rw [ho]
      rfl
    | ok p =>
      have ho : oneX o l th q t = .ok ((k.1, q.2 ++ [p.1]), p.2) := by
        unfold oneX; rw [hp]; unfold bd; dsimp only; rw [ht]
      rw [ho]
      have hb2 : ∀ g : J × Tk.Tok → Re β, bd (Except.ok p : Re (J × Tk.Tok)) g = g p := fun g => rfl
      rw [hb2, if_pos (by omega), if_neg (Nat.succ_ne_zero n)]
end
/-- behind a row -/
def rowC {β : Type} (l : F) (cl : Nat) (kd : Int) (G : J × Tk.Tok → Re β) (p : St × Tk.Tok) : Re β := if p.2.kind = cl then bd (nx l p.2) (fun t3 => G (.mk kd 0 [] p.1.1 p.1.2, t3)) else .error (some (p.2.at', 2))
theorem bd_fin {β : Type} (l : F) (x : J) (t : Tk.Tok) (G : J × Tk.Tok → Re β) : bd (fin l x t) G = bd (nx l t) (fun t3 => G (x, t3)) := by
  unfold fin
  cases nx l t <;> rfl
theorem bd_row {β : Type} (o : Bool) (l : F) (th : Tk.Tok → Re (J × Tk.Tok)) (cl : Nat) (kd d : Int) (t : Tk.Tok) (G : J × Tk.Tok → Re β) (hd : 0 < d) :
    bd (match row l (oneX o l th) cl d ([], []) t with | .error e => (.error e : Re (J × Tk.Tok)) | .ok p => fin l (.mk kd 0 [] p.1.1 p.1.2) p.2) G = bd (nx l t) (fun t1 => stA o l th cl (rowC l cl kd G) 0 ([], []) t1) := by
  unfold row
  rw [if_neg (by omega)]
  cases nx l t with
  | error e => rfl
  | ok t1 =>
    have hb : ∀ g : Tk.Tok → Re β, bd (Except.ok t1 : Re Tk.Tok) g = g t1 := fun g => rfl
    rw [hb]
    unfold stA
    rw [if_pos rfl]
    dsimp only
    generalize (if t1.kind = cl then (Except.ok (([], []), t1) : Re (St × Tk.Tok)) else rowG l (oneX o l th) (l.length + 2) ([], []) t1) = x
    cases x with
    | error e => rfl
    | ok p =>
      have hb : ∀ g : St × Tk.Tok → Re β, bd (Except.ok p : Re (St × Tk.Tok)) g = g p := fun g => rfl
      rw [hb]
      unfold rowC
      dsimp only
      by_cases h : p.2.kind = cl
      · rw [if_pos h, if_pos h]
        exact bd_fin _ _ _ _
      · rw [if_neg h, if_neg h]
        rfl
/-- what is read, from where the reader stands -/
def Hit {β : Type} (R : Re β) (G : Tk.Tok → Re β) (a er : Int) (t : Tk.Tok) : Prop := (er = 0 ∧ R = G t) ∨ (er ≠ 0 ∧ ∃ p : Nat × Int, R = .error (some p) ∧ a = (p.1 : Int) ∧ er = p.2)
theorem Hit.any {β : Type} {R : Re β} {G : Tk.Tok → Re β} {a er : Int} {t : Tk.Tok} (h : Hit R G a er t) (he : er ≠ 0) (G' : Tk.Tok → Re β) (t' : Tk.Tok) : Hit R G' a er t' := by
  rcases h with ⟨h, _⟩ | h
  · exact absurd h he
  · exact .inr h
theorem Hit.to {β : Type} {R : Re β} {G G' : Tk.Tok → Re β} {a er : Int} {t : Tk.Tok} (h : Hit R G a er t) (he : er = 0 → G t = G' t) : Hit R G' a er t := by
  rcases h with ⟨h, h2⟩ | h
  · exact .inl ⟨h, h2.trans (he h)⟩
  · exact .inr h
theorem Hit.eq {β : Type} {R : Re β} {G : Tk.Tok → Re β} {a : Int} {t : Tk.Tok} (h : Hit R G a 0 t) : R = G t := by
  rcases h with ⟨_, h2⟩ | ⟨h, _⟩
  · exact h2
  · exact absurd rfl h
theorem Hit.err {β : Type} {R : Re β} {G : Tk.Tok → Re β} {a er : Int} {t : Tk.Tok} (h : Hit R G a er t) (he : er ≠ 0) : ∃ p : Nat × Int, R = .error (some p) ∧ a = (p.1 : Int) ∧ er = p.2 := by
  rcases h with ⟨h, _⟩ | ⟨_, h⟩
  · exact absurd h he
  · exact h

theorem hit_B {β : Type} {R : Re β} {o : Bool} {l : F} {th : Tk.Tok → Re (J × Tk.Tok)} {cl : Nat} {C : St × Tk.Tok → Re β} {n : Nat} {q : St} {t : Tk.Tok} {a er : Int} (hF : Fu R) (h : Hit R (fun t => stB o l th C n q t) a er t) :
    Hit R (fun t => bd (pre o l q.1 t) (fun k => stC o l th cl C n k.1 q.2 k.2)) a er t := by
  refine h.to (fun he => ?_)
  by_cases hn : n < l.length + 2
  · exact stB_one cl hn
  · subst he
    have := h.eq
    rw [stB_out hn] at this
    exact absurd this hF

end Go.Proofs.Ythbpkmmnoeikoaa.Js
namespace Go.Proofs.Ythbpkmmnoeikoaa
open Go Go.RowKit
set_option linter.unusedVariables false
set_option linter.unusedSimpArgs false

theorem sstep_cps {β : Type} (s : ByteArray) (rb : Nat) (t : Tk.Tok) (a er : Int) (w : World) (R : Js.Re β) (G : Tk.Tok → Js.Re β) (hs : s.size ≤ 4294967280) (ht : t.end' ≤ s.size) (hr : SeC w rb s a er t) (hF : Js.Fu R)
    (h : Js.Hit R (fun t => Js.bd (Js.nx s.data.toList t) G) a er t) :
    Calls Try.prog 50 #[.pointer (some ⟨rb, 0, none⟩)] w fun e w' => e = .returned (.tuple #[]) ∧ w.grownBy w' (some rb) ∧ ∃ a' er' t', t'.end' ≤ s.size ∧ SeC w' rb s a' er' t' ∧ Js.Hit R G a' er' t' := by
  by_cases he : er = 0
  · subst he
    refine (sstep_ok s rb t a w hs ht hr).mono ?_
    rintro e w' ⟨rfl, hg, hm⟩
    refine ⟨rfl, hg, ?_⟩
    have hq := h.eq
    cases hn : Js.nx s.data.toList t with
    | ok t' =>
      rw [hn] at hm hq
      exact ⟨a, 0, t', by have := (Js.nx_wf hn (by rw [len_data]; exact ht)).1; rwa [len_data] at this, hm, .inl ⟨rfl, hq⟩⟩
    | error o =>
      rw [hn] at hm hq
      obtain ⟨e1, e2⟩ := Js.nx_err hn
      subst e1
      exact ⟨_, _, t, ht, hm, .inr ⟨e2, _, hq, rfl, rfl⟩⟩
  · refine (sstep_not s rb t a er w he hr).mono ?_
    rintro e w' ⟨rfl, rfl⟩
    exact ⟨rfl, gb_of (Below.refl _ _), a, er, t, ht, hr, h.any he _ _⟩
theorem sfail_cps {β : Type} (s : ByteArray) (rb : Nat) (t : Tk.Tok) (a er n : Int) (w : World) (R : Js.Re β) (hn : n ≠ 0) (hr : SeC w rb s a er t)
    (h : Js.Hit R (fun t => .error (some (t.at', n))) a er t) :
    Calls Try.prog 52 #[.pointer (some ⟨rb, 0, none⟩), .int .i64 n] w fun e w' => e = .returned (.tuple #[]) ∧ w.grownBy w' (some rb) ∧ ∃ a' er', er' ≠ 0 ∧ SeC w' rb s a' er' t ∧ ∀ G, Js.Hit R G a' er' t := by
  refine (sfail_any s rb a er n t w hr).mono ?_
  rintro e w' ⟨rfl, hg, hm⟩
  refine ⟨rfl, hg, ?_⟩
  by_cases he : er = 0
  · subst he
    rw [if_pos rfl, if_pos rfl] at hm
    exact ⟨_, n, hn, hm, fun G => .inr ⟨hn, _, h.eq, rfl, rfl⟩⟩
  · rw [if_neg he, if_neg he] at hm
    exact ⟨a, er, he, hm, fun G => h.any he _ _⟩

/-- what a thing comes to -/
def RPost {β : Type} (s : ByteArray) (rb : Nat) (W : World) (R : Js.Re β) (G : Js.J × Tk.Tok → Js.Re β) (e : Ending) (W' : World) : Prop :=
  W.grownBy W' (some rb) ∧ ∃ v k j a' er' t', e = .returned v ∧ t'.end' ≤ s.size ∧ SeC W' rb s a' er' t' ∧ JVn k (fun b => W.heap.size ≤ b ∧ b < W'.heap.size) W' v j ∧ Js.Hit R (fun t' => G (j, t')) a' er' t'
/-- what the thing of less depth does -/
def RThOk (s : ByteArray) (d : Int) (th : Tk.Tok → Js.Re (Js.J × Tk.Tok)) : Prop :=
  ∀ (β : Type) (R : Js.Re β) (G : Js.J × Tk.Tok → Js.Re β) (rb : Nat) (a er : Int) (t : Tk.Tok) (W : World), Js.Fu R → t.end' ≤ s.size → SeC W rb s a er t → Js.Hit R (fun t => Js.bd (th t) G) a er t →
    Calls Try.prog 51 #[.pointer (some ⟨rb, 0, none⟩), .int .i64 d] W (RPost s rb W R G)

end Go.Proofs.Ythbpkmmnoeikoaa

/-
  The reference's thing, of a token that is a thing by itself (a text, a number, a word), or none, or behind an error. Condition: a text shorter than 2^32 - 15 bytes.
-/
namespace Go.Proofs.Ythbpkmmnoeikoaa
open Go Go.RowKit
set_option linter.unusedVariables false
set_option linter.unusedSimpArgs false

/-- behind the last token: the thing lies in block B -/
theorem yeaf_end {w w3 : World} {rb : Nat} {s : ByteArray} {t' : Tk.Tok} {a er : Int} {kd n : Int} {x : List UInt8} {sx : ByteArray} {z0 z1 z2 z3 z4 : Value} (hsx : sx = bs x) (h0 : rb < w.heap.size) (hg : w.grownBy w3 (some rb)) (hr : SeC w3 rb s a er t')
    (hres : w3.heap[w.heap.size]? = some (.cells #[z0, z1, z2, z3, z4] 41 (0, 0))) :
    ∃ wf, wf = ((((w3.setCell ⟨w.heap.size, 0, none⟩ (.int .i64 kd)).setCell ⟨w.heap.size, 1, none⟩ (.int .i64 n)).setCell ⟨w.heap.size, 2, none⟩ (.string sx)).setCell ⟨w.heap.size, 3, none⟩ (.slice none 0 0)).setCell ⟨w.heap.size, 4, none⟩ (.slice none 0 0) ∧
      wf.heap[w.heap.size]? = some (.cells #[.int .i64 kd, .int .i64 n, .string sx, .slice none 0 0, .slice none 0 0] 41 (0, 0)) ∧ w.grownBy wf (some rb) ∧ SeC wf rb s a er t' ∧
      JVn 1 (fun b => w.heap.size ≤ b ∧ b < wf.heap.size) wf (.agg #[.int .i64 kd, .int .i64 n, .string sx, .slice none 0 0, .slice none 0 0]) (.mk kd n x [] []) := by
  have hb := tok_below5 w3 (w.heap.size) (.int .i64 kd) (.int .i64 n) (.string sx) (.slice none 0 0) (.slice none 0 0)
  refine ⟨_, rfl, row_set (row_set (row_set (row_set (row_set hres 0 _) 1 _) 2 _) 3 _) 4 _, ?_, (hb.block rb (by omega)).trans hr, _, _, by rw [hsx]; rfl, ⟨none, 0, rfl, fun i hi => by simp at hi⟩, ⟨none, 0, rfl, fun i hi => by simp at hi⟩⟩
  exact ⟨hb.os.trans hg.os, hb.tape.trans hg.tape, hb.output.trans hg.output, Nat.le_trans hg.size hb.size, fun k hk hne => (hb.block k (by omega)).trans (hg.block k hk hne)⟩


theorem two_blk {w : World} {o0 o1 : Obj} : ((w.alloc o0).alloc o1).heap[w.heap.size]? = some o0 ∧ ((w.alloc o0).alloc o1).heap[w.heap.size + 1]? = some o1 ∧ Below w.heap.size w ((w.alloc o0).alloc o1) := by
  have e1 : (w.alloc o0).heap.size = w.heap.size + 1 := by simp
  refine ⟨(Below.heap_alloc _ _ _ (by omega)).trans (heap_alloc_new w o0), ?_, ((Below.refl _ w).alloc (Nat.le_refl _) _).alloc (by omega) _⟩
  have := heap_alloc_new (w.alloc o0) o1
  rwa [e1] at this

set_option maxRecDepth 100000 in
set_option maxHeartbeats 8000000 in
theorem sthing_not {β : Type} (s : ByteArray) (d : Int) (rb : Nat) (a er : Int) (t : Tk.Tok) (w : World) (R : Js.Re β) (G G' : Js.J × Tk.Tok → Js.Re β) (th : Tk.Tok → Js.Re (Js.J × Tk.Tok)) (hr : SeC w rb s a er t) (ht : t.end' ≤ s.size) (he : er ≠ 0) (h : Js.Hit R (fun t => Js.bd (th t) G) a er t) :
    Calls Try.prog 51 #[.pointer (some ⟨rb, 0, none⟩), .int .i64 d] w (RPost s rb w R G') := by
  have h0 : rb < w.heap.size := (Array.getElem?_eq_some_iff.1 hr).1
  have t0 : (er != 0) = true := by simp [he]
  obtain ⟨hx0, hx1, hxb⟩ := two_blk (w := w) (o0 := .cells #[.int .i64 0, .int .i64 0, .string ⟨#[]⟩, .slice none 0 0, .slice none 0 0] 41) (o1 := .cells #[.int .i64 0, .int .i64 0, .string ⟨#[]⟩, .slice none 0 0, .slice none 0 0] 41)
  obtain ⟨c0, c1, c2, c3, c4, c5, c6, c7, c8⟩ := se_cells (se_below hr hxb)
  obtain ⟨wf, hwf, hwfb, hgf, hrf, hj⟩ := yeaf_end (kd := 0) (n := 0) (x := []) (sx := ⟨#[]⟩) rfl h0 (gb_of hxb) (se_below hr hxb) hx0
  have HH := Lib.hid (h.any he (fun t' => G' (Js.J.mk 0 0 [] [] [], t')) t)
  clear h he
  go_enter Try.func51, Try.ntmps51
  go_wp2_with fail
  refine bodyPost_ret (v := .agg #[.int .i64 0, .int .i64 0, .string ⟨#[]⟩, .slice none 0 0, .slice none 0 0]) (by simp [results, Try.results51, go_sem]) rfl ?_
  exact ⟨gb_of hxb, _, 1, Js.J.mk 0 0 [] [] [], a, er, t, rfl, ht, se_below hr hxb, ⟨_, _, rfl, ⟨none, 0, rfl, fun i hi => by simp at hi⟩, ⟨none, 0, rfl, fun i hi => by simp at hi⟩⟩, HH.out⟩

set_option maxRecDepth 100000 in
set_option maxHeartbeats 8000000 in
theorem sthing_leaf {β : Type} (s : ByteArray) (n : Nat) (d : Int) (hs : s.size ≤ 4294967280) (rb : Nat) (a : Int) (t : Tk.Tok) (w : World) (R : Js.Re β) (G : Js.J × Tk.Tok → Js.Re β) (hF : Js.Fu R) (hr : SeC w rb s a 0 t) (ht : t.end' ≤ s.size) (h1 : t.kind ≠ 1) (h3 : t.kind ≠ 3)
    (hq : R = Js.bd (Js.thing (n + 1) s.data.toList d t) G) :
    Calls Try.prog 51 #[.pointer (some ⟨rb, 0, none⟩), .int .i64 d] w (RPost s rb w R G) := by
  have h0 : rb < w.heap.size := (Array.getElem?_eq_some_iff.1 hr).1
  have t0 : ((0 : Int) != 0) = false := by decide
  obtain ⟨hx0, hx1, hxb⟩ := two_blk (w := w) (o0 := .cells #[.int .i64 0, .int .i64 0, .string ⟨#[]⟩, .slice none 0 0, .slice none 0 0] 41) (o1 := .cells #[.int .i64 0, .int .i64 0, .string ⟨#[]⟩, .slice none 0 0, .slice none 0 0] 41)
  obtain ⟨c0, c1, c2, c3, c4, c5, c6, c7, c8⟩ := se_cells (se_below hr hxb)
  clear hx0 hx1 hxb
  rw [Js.thing] at hq
  dsimp only at hq
  rw [if_neg h1, if_neg h3] at hq
  have t1 : ((t.kind : Int) == 1) = false := by simp; omega
  have t3 : ((t.kind : Int) == 3) = false := by simp; omega
  by_cases h7 : t.kind = 7
  · rw [if_pos h7] at hq
    have t7 : ((t.kind : Int) == 7) = true := by simp [h7]
    clear h7
    have HQ := Lib.hid hq
    clear hq h1 h3
    go_enter Try.func51, Try.ntmps51
    go_wp2_with fail
    simp only [Nat.add_assoc, Nat.reduceAdd]
    clear c0 c1 c2 c3 c4 c5 c6 c7 c8
    refine (sstep_cps s rb t a 0 _ R _ hs ht (se_below hr (three_blk).2.2.2) hF (.inl ⟨rfl, HQ.out.trans (Js.bd_fin _ _ _ _)⟩)).mono ?_
    rintro e w3 ⟨rfl, hg3, a', er', t', ht', hr3, hh⟩
    have hgw : w.grownBy w3 (some rb) := (gb_of (three_blk).2.2.2).trans hg3
    have e2 : w3.heap[w.heap.size + 1]? = _ := (hg3.block _ (by simp) (fun e => by cases e; omega)).trans (three_blk).2.1
    have e1 : w3.heap[w.heap.size]? = _ := (hg3.block _ (by simp; omega) (fun e => by cases e; omega)).trans (three_blk).1
    have HH := Lib.hid hh
    clear hh hg3
    obtain ⟨y0, y1, y2, y3, y4⟩ := tok_cells e2
    obtain ⟨z0, z1, z2, z3, z4⟩ := tok_cells e1
    obtain ⟨v0, v1, v2, v3, v4⟩ := tok_frozen e1
    obtain ⟨wf, hwf, hwfb, hgf, hrf, hj⟩ := yeaf_end (kd := 4) (n := 0) (x := t.s) (sx := bs t.s) rfl h0 hgw hr3 e1
    go_wp2_with fail
    rw [← hwf]
    obtain ⟨u0, u1, u2, u3, u4⟩ := tok_cells hwfb
    clear hwf y0 y1 y2 y3 y4 z0 z1 z2 z3 z4 v0 v1 v2 v3 v4
    exact bodyPost_ret (v := .agg #[.int .i64 4, .int .i64 0, .string (bs t.s), .slice none 0 0, .slice none 0 0]) (by simp [results, Try.results51, go_sem, u0, u1, u2, u3, u4]) rfl ⟨hgf, _, 1, _, a', er', t', rfl, ht', hrf, hj, HH.out⟩
  rw [if_neg h7] at hq
  have t7 : ((t.kind : Int) == 7) = false := by simp; omega
  by_cases h8 : t.kind = 8
  · rw [if_pos h8] at hq
    have t8 : ((t.kind : Int) == 8) = true := by simp [h8]
    clear h7 h8
    have HQ := Lib.hid hq
    clear hq h1 h3
    go_enter Try.func51, Try.ntmps51
    go_wp2_with fail
    simp only [Nat.add_assoc, Nat.reduceAdd]
    clear c0 c1 c2 c3 c4 c5 c6 c7 c8
    refine (sstep_cps s rb t a 0 _ R _ hs ht (se_below hr (three_blk).2.2.2) hF (.inl ⟨rfl, HQ.out.trans (Js.bd_fin _ _ _ _)⟩)).mono ?_
    rintro e w3 ⟨rfl, hg3, a', er', t', ht', hr3, hh⟩
    have hgw : w.grownBy w3 (some rb) := (gb_of (three_blk).2.2.2).trans hg3
    have e2 : w3.heap[w.heap.size + 1]? = _ := (hg3.block _ (by simp) (fun e => by cases e; omega)).trans (three_blk).2.1
    have e1 : w3.heap[w.heap.size]? = _ := (hg3.block _ (by simp; omega) (fun e => by cases e; omega)).trans (three_blk).1
    have HH := Lib.hid hh
    clear hh hg3
    obtain ⟨y0, y1, y2, y3, y4⟩ := tok_cells e2
    obtain ⟨z0, z1, z2, z3, z4⟩ := tok_cells e1
    obtain ⟨v0, v1, v2, v3, v4⟩ := tok_frozen e1
    obtain ⟨wf, hwf, hwfb, hgf, hrf, hj⟩ := yeaf_end (kd := 2) (n := t.n) (x := []) (sx := ⟨#[]⟩) rfl h0 hgw hr3 e1
    go_wp2_with fail
    rw [← hwf]
    obtain ⟨u0, u1, u2, u3, u4⟩ := tok_cells hwfb
    clear hwf y0 y1 y2 y3 y4 z0 z1 z2 z3 z4 v0 v1 v2 v3 v4
    exact bodyPost_ret (v := .agg #[.int .i64 2, .int .i64 t.n, .string ⟨#[]⟩, .slice none 0 0, .slice none 0 0]) (by simp [results, Try.results51, go_sem, u0, u1, u2, u3, u4]) rfl ⟨hgf, _, 1, _, a', er', t', rfl, ht', hrf, hj, HH.out⟩
  rw [if_neg h8] at hq
  have t8 : ((t.kind : Int) == 8) = false := by simp; omega
  by_cases h9 : t.kind = 9
  · rw [if_pos h9] at hq
    have t9 : ((t.kind : Int) == 9) = true := by simp [h9]
    clear h7 h8 h9
    have key : ∀ l : List UInt8, ((bs t.s).toList == l) = decide (t.s = l) := fun l => by
      rw [ByteArray.toList_eq]
      show (t.s == l) = _
      by_cases h : t.s = l
      · rw [decide_eq_true h, h]; simp
      · rw [decide_eq_false h]; exact beq_eq_false_iff_ne.2 h
    have k1 := key Js.wNull
    have k2 := key Js.wTrue
    clear key
    by_cases hnu : t.s = Js.wNull
    · have htr : ¬ t.s = Js.wTrue := by rw [hnu]; decide
      rw [if_pos hnu, if_neg htr] at hq
      rw [decide_eq_true hnu] at k1
      rw [decide_eq_false htr] at k2
      have n1 : ((bs t.s).toList == [110, 117, 108, 108]) = true := k1
      have n3 : (!((bs t.s).toList == [110, 117, 108, 108])) = false := by rw [n1]; rfl
      have n2 : ((bs t.s).toList == [116, 114, 117, 101]) = false := k2
      clear hnu htr k1 k2
      have HQ := Lib.hid hq
      clear hq h1 h3
      go_enter Try.func51, Try.ntmps51
      go_wp2_with fail
      simp only [Nat.add_assoc, Nat.reduceAdd]
      clear c0 c1 c2 c3 c4 c5 c6 c7 c8
      refine (sstep_cps s rb t a 0 _ R _ hs ht (se_below hr (three_blk).2.2.2) hF (.inl ⟨rfl, HQ.out.trans (Js.bd_fin _ _ _ _)⟩)).mono ?_
      rintro e w3 ⟨rfl, hg3, a', er', t', ht', hr3, hh⟩
      have hgw : w.grownBy w3 (some rb) := (gb_of (three_blk).2.2.2).trans hg3
      have e2 : w3.heap[w.heap.size + 1]? = _ := (hg3.block _ (by simp) (fun e => by cases e; omega)).trans (three_blk).2.1
      have e1 : w3.heap[w.heap.size]? = _ := (hg3.block _ (by simp; omega) (fun e => by cases e; omega)).trans (three_blk).1
      have HH := Lib.hid hh
      clear hh hg3
      obtain ⟨y0, y1, y2, y3, y4⟩ := tok_cells e2
      obtain ⟨z0, z1, z2, z3, z4⟩ := tok_cells e1
      obtain ⟨v0, v1, v2, v3, v4⟩ := tok_frozen e1
      obtain ⟨wf, hwf, hwfb, hgf, hrf, hj⟩ := yeaf_end (kd := 0) (n := 0) (x := []) (sx := ⟨#[]⟩) rfl h0 hgw hr3 e1
      go_wp2_with fail
      rw [← hwf]
      obtain ⟨u0, u1, u2, u3, u4⟩ := tok_cells hwfb
      clear hwf y0 y1 y2 y3 y4 z0 z1 z2 z3 z4 v0 v1 v2 v3 v4
      exact bodyPost_ret (v := .agg #[.int .i64 0, .int .i64 0, .string ⟨#[]⟩, .slice none 0 0, .slice none 0 0]) (by simp [results, Try.results51, go_sem, u0, u1, u2, u3, u4]) rfl ⟨hgf, _, 1, _, a', er', t', rfl, ht', hrf, hj, HH.out⟩
    · rw [if_neg hnu] at hq
      rw [decide_eq_false hnu] at k1
      have n1 : ((bs t.s).toList == [110, 117, 108, 108]) = false := k1
      have n3 : (!((bs t.s).toList == [110, 117, 108, 108])) = true := by rw [n1]; rfl
      by_cases htr : t.s = Js.wTrue
      · rw [if_pos htr] at hq
        rw [decide_eq_true htr] at k2
        have n2 : ((bs t.s).toList == [116, 114, 117, 101]) = true := k2
        clear hnu htr k1 k2
        have HQ := Lib.hid hq
        clear hq h1 h3
        go_enter Try.func51, Try.ntmps51
        go_wp2_with fail
        simp only [Nat.add_assoc, Nat.reduceAdd]
        clear c0 c1 c2 c3 c4 c5 c6 c7 c8
        refine (sstep_cps s rb t a 0 _ R _ hs ht (se_below hr (three_blk).2.2.2) hF (.inl ⟨rfl, HQ.out.trans (Js.bd_fin _ _ _ _)⟩)).mono ?_
        rintro e w3 ⟨rfl, hg3, a', er', t', ht', hr3, hh⟩
        have hgw : w.grownBy w3 (some rb) := (gb_of (three_blk).2.2.2).trans hg3
        have e2 : w3.heap[w.heap.size + 1]? = _ := (hg3.block _ (by simp) (fun e => by cases e; omega)).trans (three_blk).2.1
        have e1 : w3.heap[w.heap.size]? = _ := (hg3.block _ (by simp; omega) (fun e => by cases e; omega)).trans (three_blk).1
        have HH := Lib.hid hh
        clear hh hg3
        obtain ⟨y0, y1, y2, y3, y4⟩ := tok_cells e2
        obtain ⟨z0, z1, z2, z3, z4⟩ := tok_cells e1
        obtain ⟨v0, v1, v2, v3, v4⟩ := tok_frozen e1
        obtain ⟨wf, hwf, hwfb, hgf, hrf, hj⟩ := yeaf_end (kd := 1) (n := 1) (x := []) (sx := ⟨#[]⟩) rfl h0 hgw hr3 e1
        go_wp2_with fail
        rw [← hwf]
        obtain ⟨u0, u1, u2, u3, u4⟩ := tok_cells hwfb
        clear hwf y0 y1 y2 y3 y4 z0 z1 z2 z3 z4 v0 v1 v2 v3 v4
        exact bodyPost_ret (v := .agg #[.int .i64 1, .int .i64 1, .string ⟨#[]⟩, .slice none 0 0, .slice none 0 0]) (by simp [results, Try.results51, go_sem, u0, u1, u2, u3, u4]) rfl ⟨hgf, _, 1, _, a', er', t', rfl, ht', hrf, hj, HH.out⟩
      · rw [if_neg htr] at hq
        rw [decide_eq_false htr] at k2
        have n2 : ((bs t.s).toList == [116, 114, 117, 101]) = false := k2
        clear hnu htr k1 k2
        have HQ := Lib.hid hq
        clear hq h1 h3
        go_enter Try.func51, Try.ntmps51
        go_wp2_with fail
        simp only [Nat.add_assoc, Nat.reduceAdd]
        clear c0 c1 c2 c3 c4 c5 c6 c7 c8
        refine (sstep_cps s rb t a 0 _ R _ hs ht (se_below hr (three_blk).2.2.2) hF (.inl ⟨rfl, HQ.out.trans (Js.bd_fin _ _ _ _)⟩)).mono ?_
        rintro e w3 ⟨rfl, hg3, a', er', t', ht', hr3, hh⟩
        have hgw : w.grownBy w3 (some rb) := (gb_of (three_blk).2.2.2).trans hg3
        have e2 : w3.heap[w.heap.size + 1]? = _ := (hg3.block _ (by simp) (fun e => by cases e; omega)).trans (three_blk).2.1
        have e1 : w3.heap[w.heap.size]? = _ := (hg3.block _ (by simp; omega) (fun e => by cases e; omega)).trans (three_blk).1
        have HH := Lib.hid hh
        clear hh hg3
        obtain ⟨y0, y1, y2, y3, y4⟩ := tok_cells e2
        obtain ⟨z0, z1, z2, z3, z4⟩ := tok_cells e1
        obtain ⟨v0, v1, v2, v3, v4⟩ := tok_frozen e1
        obtain ⟨wf, hwf, hwfb, hgf, hrf, hj⟩ := yeaf_end (kd := 1) (n := 0) (x := []) (sx := ⟨#[]⟩) rfl h0 hgw hr3 e1
        go_wp2_with fail
        rw [← hwf]
        obtain ⟨u0, u1, u2, u3, u4⟩ := tok_cells hwfb
        clear hwf y0 y1 y2 y3 y4 z0 z1 z2 z3 z4 v0 v1 v2 v3 v4
        exact bodyPost_ret (v := .agg #[.int .i64 1, .int .i64 0, .string ⟨#[]⟩, .slice none 0 0, .slice none 0 0]) (by simp [results, Try.results51, go_sem, u0, u1, u2, u3, u4]) rfl ⟨hgf, _, 1, _, a', er', t', rfl, ht', hrf, hj, HH.out⟩
  rw [if_neg h9] at hq
  have t9 : ((t.kind : Int) == 9) = false := by simp; omega
  have HQ := Lib.hid hq
  clear hq h1 h3 h7 h8 h9
  go_enter Try.func51, Try.ntmps51
  go_wp2_with fail
  simp only [Nat.add_assoc, Nat.reduceAdd]
  clear c0 c1 c2 c3 c4 c5 c6 c7 c8
  refine (sfail_cps s rb t a 0 2 _ R (by decide) (se_below hr (three_blk).2.2.2) (.inl ⟨rfl, HQ.out⟩)).mono ?_
  rintro e w2 ⟨rfl, hg2, a2, er2, he2, hr2, hh2⟩
  have hgw2 : w.grownBy w2 (some rb) := (gb_of (three_blk).2.2.2).trans hg2
  have d2 : w2.heap[w.heap.size + 1]? = _ := (hg2.block _ (by simp) (fun e => by cases e; omega)).trans (three_blk).2.1
  have d1 : w2.heap[w.heap.size]? = _ := (hg2.block _ (by simp; omega) (fun e => by cases e; omega)).trans (three_blk).1
  have HH2 := Lib.hid hh2
  clear hh2 hg2
  go_wp2_with fail
  refine (sstep_cps s rb t a2 er2 w2 R (fun t' => G (Js.J.mk 0 0 [] [] [], t')) hs ht hr2 hF (HH2.out _)).mono ?_
  rintro e w3 ⟨rfl, hg3, a', er', t', ht', hr3, hh⟩
  have hgw : w.grownBy w3 (some rb) := hgw2.trans hg3
  have e2 : w3.heap[w.heap.size + 1]? = _ := (hg3.block _ (Array.getElem?_eq_some_iff.1 d2).1 (fun e => by cases e; omega)).trans d2
  have e1 : w3.heap[w.heap.size]? = _ := (hg3.block _ (Array.getElem?_eq_some_iff.1 d1).1 (fun e => by cases e; omega)).trans d1
  have HH := Lib.hid hh
  clear hh hg3
  obtain ⟨y0, y1, y2, y3, y4⟩ := tok_cells e2
  obtain ⟨z0, z1, z2, z3, z4⟩ := tok_cells e1
  obtain ⟨v0, v1, v2, v3, v4⟩ := tok_frozen e1
  obtain ⟨wf, hwf, hwfb, hgf, hrf, hj⟩ := yeaf_end (kd := 0) (n := 0) (x := []) (sx := ⟨#[]⟩) rfl h0 hgw hr3 e1
  go_wp2_with fail
  rw [← hwf]
  obtain ⟨u0, u1, u2, u3, u4⟩ := tok_cells hwfb
  clear hwf y0 y1 y2 y3 y4 z0 z1 z2 z3 z4 v0 v1 v2 v3 v4
  exact bodyPost_ret (v := .agg #[.int .i64 0, .int .i64 0, .string ⟨#[]⟩, .slice none 0 0, .slice none 0 0]) (by simp [results, Try.results51, go_sem, u0, u1, u2, u3, u4]) rfl ⟨hgf, _, 1, _, a', er', t', rfl, ht', hrf, hj, HH.out⟩

end Go.Proofs.Ythbpkmmnoeikoaa

/-
  The reference's reader: a member's name and its colon. Condition: a text shorter than 2^32 - 15 bytes; at most 100000 names ahead.
-/
namespace Go.Proofs.Ythbpkmmnoeikoaa
open Go Go.RowKit Go.Deep
set_option linter.unusedVariables false
set_option linter.unusedSimpArgs false

/-- behind a name -/
def colG {β : Type} (l : List UInt8) (ns : List (List UInt8)) (G : List (List UInt8) → Tk.Tok → Js.Re β) (t1 : Tk.Tok) : Js.Re β := if t1.kind ≠ 5 then .error (some (t1.at', 2)) else Js.bd (Js.nx l t1) (fun t2 => G ns t2)
theorem bd_key {β : Type} {l : List UInt8} {ns : List (List UInt8)} {t : Tk.Tok} (G : List (List UInt8) → Tk.Tok → Js.Re β) (h7 : t.kind = 7) (hin : ¬ t.s ∈ ns) :
    Js.bd (Js.key l ns t) (fun k => G k.1 k.2) = Js.bd (Js.nx l t) (colG l (ns ++ [t.s]) G) := by
  unfold Js.key
  rw [if_neg (by omega), if_neg hin]
  cases Js.nx l t with
  | error e => rfl
  | ok t1 =>
    have hb : ∀ g : Tk.Tok → Js.Re β, Js.bd (Except.ok t1 : Js.Re Tk.Tok) g = g t1 := fun g => rfl
    rw [hb]
    unfold colG
    dsimp only
    by_cases h5 : t1.kind = 5
    · rw [if_neg (by omega), if_neg (by omega)]
      cases Js.nx l t1 <;> rfl
    · rw [if_pos h5, if_pos h5]
      rfl
/-- the names so far are others -/
def NaS (n : Nat) (ns : List (List UInt8)) (x : List UInt8) (w0 : World) (i : Value) (w : World) : Prop := ∃ k : Nat, k ≤ n ∧ i = .int .i64 (k : Int) ∧ Below w0.heap.size w0 w ∧ Hid (∀ m (h : m < ns.length), m < k → ns[m] ≠ x)
/-- what a name comes to -/
def NaPost {β : Type} (s : ByteArray) (rb : Nat) (w0 wi : World) (kd : Int) (bs : Nat) (R : Js.Re β) (G : List (List UInt8) → Tk.Tok → Js.Re β) (m : Nat) (xs : List Js.J) (vs : List Value) (vx vl : Value) (n : Nat) (cs : List Value) (e : Ending) (W' : World) : Prop :=
  e = .returned (.tuple #[]) ∧ ∃ ns' vn' a' er' t', ns'.length ≤ m + 1 ∧ t'.end' ≤ s.size ∧ Yg w0 wi rb kd bs ns' xs vs [] vn' vx vl n cs W' ∧ SeC W' rb s a' er' t' ∧ Js.Hit R (fun t' => G ns' t') a' er' t'

set_option maxRecDepth 100000 in
set_option maxHeartbeats 8000000 in
theorem sname_any {β : Type} (s : ByteArray) (rb : Nat) (w0 wi : World) (h0 : rb < w0.heap.size) (kd : Int) (lo : Nat) (h3 : w0.heap.size + 3 ≤ lo) (R : Js.Re β) (G : List (List UInt8) → Tk.Tok → Js.Re β) (ns : List (List UInt8)) (xs : List Js.J) (vs : List Value) (vn vx vl : Value) (n : Nat) (cs : List Value) (a er : Int) (t : Tk.Tok) (W : World)
    (hs : s.size ≤ 4294967280) (ht : t.end' ≤ s.size) (hn : ns.length ≤ 100000) (hF : Js.Fu R) (hX : Yg w0 wi rb kd lo ns xs vs [] vn vx vl n cs W) (hr : SeC W rb s a er t) (h : Js.Hit R (fun t => Js.bd (Js.key s.data.toList ns t) (fun k => G k.1 k.2)) a er t) :
    Calls Try.prog 86 #[.pointer (some ⟨rb, 0, none⟩), .pointer (some ⟨w0.heap.size + 1, 0, none⟩)] W (NaPost s rb w0 wi kd lo R G ns.length xs vs vx vl n cs) := by
  by_cases he : er = 0
  case neg =>
    obtain ⟨c0, c1, c2, c3, c4, c5, c6, c7, c8⟩ := se_cells hr
    have t1 : (er != 0) = true := by simp [he]
    have HE := Lib.hid he
    have HH := Lib.hid h
    clear he h
    go_enter Try.func86, Try.ntmps86
    go_wp2
    refine bodyPost_ret (results_none rfl _ _ _) rfl ?_
    exact ⟨rfl, ns, vn, a, er, t, Nat.le_succ _, ht, hX, hr, HH.out.any HE.out _ _⟩
  subst he
  have t0 : ((0 : Int) != 0) = false := by decide
  have hq := h.eq
  by_cases h7 : t.kind = 7
  case neg =>
    obtain ⟨c0, c1, c2, c3, c4, c5, c6, c7, c8⟩ := se_cells hr
    have t7 : ((t.kind : Int) != 7) = true := by simp; omega
    have hq2 : R = .error (some (t.at', 2)) := by rw [hq]; unfold Js.key; rw [if_pos h7]; rfl
    have hf := sfail_cps s rb t a 0 2 W R (by decide) hr (.inl ⟨rfl, hq2⟩)
    clear h7 hq hq2 h
    go_enter Try.func86, Try.ntmps86
    go_wp2_with fail
    refine hf.mono ?_
    rintro e w1 ⟨rfl, hg1, a', er', he', hr1, hh⟩
    go_wp2_with fail
    refine bodyPost_ret (results_none rfl _ _ _) rfl ?_
    exact ⟨rfl, ns, vn, a', er', t, Nat.le_succ _, ht, hX.reader hg1 h0 h3, hr1, hh _⟩
  have t7 : ((t.kind : Int) != 7) = false := by simp [h7]
  obtain ⟨c0, c1, c2, c3, c4, c5, c6, c7, c8⟩ := se_cells hr
  have x3 := yg_x3 hX
  have hnm := names_own (S := fun b => lo ≤ b ∧ b < W.heap.size) (yg_nm hX) (fun b hb => (yg_nm hX).lt b hb)
  obtain ⟨np, nc, rfl, hna⟩ := hnm
  have HNA := Lib.hid hna
  have hrl : rb < W.heap.size := (Array.getElem?_eq_some_iff.1 hr).1
  have hxl : w0.heap.size + 1 < W.heap.size := by have := yg_size hX; omega
  have key : ∀ x y : List UInt8, ((bs x).toList == (bs y).toList) = decide (x = y) := fun x y => by
    rw [ByteArray.toList_eq, ByteArray.toList_eq]
    show (x == y) = _
    by_cases h : x = y
    · rw [decide_eq_true h, h]; simp
    · rw [decide_eq_false h]; simp [h]
  have KEY := Lib.hid key
  have HQ := Lib.hid hq
  have H7 := Lib.hid h7
  clear key hq h h7 hna
  go_enter Try.func86, Try.ntmps86
  go_wp2_with fail
  go_loopw [4] (NaS ns.length ns t.s W) (fun i _ => ns.length - (intOf i).toNat)
  case atStart => exact ⟨0, Nat.zero_le _, by go_num, Below.refl _ _, fun m h h2 => absurd h2 (by omega)⟩
  case round =>
    obtain ⟨i, hi, rfl, hbl, HE⟩ := hrel
    have c6 := cell_below hbl c6
    have x3 := cell_below hbl x3
    by_cases hlt : i < ns.length
    · have tl : decide ((i : Int) < (ns.length : Int)) = true := decide_eq_true (by omega)
      obtain ⟨e1, o1, rfl, hs1, hc1⟩ := HNA.out i hlt
      have hc1 := cell_same (hbl.block e1 hs1.2) hc1
      have hk := KEY.out ns[i] t.s
      by_cases he : ns[i] = t.s
      · rw [decide_eq_true he] at hk
        have hin : t.s ∈ ns := he ▸ List.getElem_mem hlt
        have hq2 : R = .error (some (t.at', 6)) := by rw [HQ.out]; unfold Js.key; rw [if_neg (by have := H7.out; omega), if_pos hin]; rfl
        have hf := sfail_cps s rb t a 0 6 wr.drew R (by decide) (se_below hr hbl.drew) (.inl ⟨rfl, hq2⟩)
        clear he hin hq2
        go_wp2
        go_region
        go_wp2_with fail
        refine hf.mono ?_
        rintro e w1 ⟨rfl, hg1, a', er', he', hr1, hh⟩
        go_wp2_with fail
        refine bodyPost_ret (results_none rfl _ _ _) rfl ?_
        exact ⟨rfl, ns, _, a', er', t, Nat.le_succ _, ht, (hX.below hbl.drew h0 h3).reader hg1 h0 h3, hr1, hh _⟩
      · rw [decide_eq_false he] at hk
        have HE2 := Lib.hid he
        clear he
        go_wp2
        go_region
        go_wp2
        go_roundw
        case rel => exact ⟨i + 1, by omega, by go_num, hbl.drew, fun m h h2 => by
          by_cases hm : m = i
          · subst hm; exact HE2.out
          · exact HE.out m h (by omega)⟩
        case measure => simp [intOf]; omega
    · obtain rfl : i = ns.length := by omega
      have tl : decide ((ns.length : Int) < (ns.length : Int)) = false := decide_eq_false (by omega)
      have hin : ¬ t.s ∈ ns := fun hm => by
        obtain ⟨m, h, he⟩ := List.getElem_of_mem hm
        exact HE.out m h h he
      have hq2 := HQ.out.trans (bd_key G H7.out hin)
      have hXl := hX.below hbl h0 h3
      have hr2 := se_below hr hbl
      have HQ2 := Lib.hid hq2
      clear hq2 HQ hin HE HNA
      go_upto_region 8 with fail
      go_cut [] (fun wx => ∃ vn', Yg w0 wi rb kd lo (ns ++ [t.s]) xs vs [] vn' vx vl n cs wx ∧ SeC wx rb s a 0 t)
      case first =>
        obtain ⟨is, hsi, hsz0, hsz1, hsz2⟩ := info_parts infoStrJ
        have hbz : Below wr.heap.size wr (wr.alloc (.cells #[str t.s] 9)).drew := ((Below.refl _ wr).alloc (Nat.le_refl _) _).drew
        have hzb : (wr.alloc (.cells #[str t.s] 9)).drew.heap[wr.heap.size]? = some (.cells #[str t.s] 9 (0, 0)) := heap_alloc_new wr _
        have hXz := hXl.below hbz h0 h3
        have hrz := se_below hr2 hbz
        have x3z := yg_x3 hXz
        have hnm1 : ns.length + 1 ≤ maxLen := by unfold maxLen; omega
        have hnm2 : (ns.length + 1) * 16 ≤ 140737488355328 := by omega
        go_region_law (refine step_append_lies _ rfl _ _ 38 rfl lo 9 is _ 1 16 Try.underlying38 hsi hsz0 hsz1 hsz2 rfl (by decide) _ _ _ rfl (yg_nm hXz) ⟨wr.heap.size, 0, none⟩ 1 1 [str t.s] rfl rfl (World.news_of_block hzb) (by simp [Value.oneCell']) (by omega) hnm1 hnm2 (yg_size hXz) _ rfl ?_; intro gn capn w5 hownn hgrown horn hgltn; obtain ⟨xc3, xf3⟩ := yg_x3n hXz h3 hgrown)
        all_goals (
          go_wp2_with fail
          go_meet
          exact ⟨_, hXz.names h0 h3 hownn hgrown horn, se_set (se_app hrz hgrown (fun e => by have := ((yg_nm hXz).lt rb e.symm).1; omega)) (show w0.heap.size + 1 ≠ rb by omega) 3 _⟩)
      case rest =>
        obtain ⟨vn', hX3, hr3⟩ := hcut
        have hst := sstep_cps s rb t a 0 wc R (colG s.data.toList (ns ++ [t.s]) G) hs ht hr3 hF (.inl ⟨rfl, HQ2.out⟩)
        clear c0 c1 c2 c3 c4 c5 c6 c7 c8 x3 hXl hr2
        go_wp2_with fail
        refine hst.mono ?_
        rintro e w4 ⟨rfl, hg4, a4, er4, t4, ht4, hr4, hh4⟩
        have hX4 := hX3.reader hg4 h0 h3
        have HL : (ns ++ [t.s]).length ≤ ns.length + 1 := by simp
        obtain ⟨c0, c1, c2, c3, c4, c5, c6, c7, c8⟩ := se_cells hr4
        clear hst hX3 hr3 hg4 hX hr
        by_cases he4 : er4 = 0
        · subst he4
          have te : ((0 : Int) == 0) = true := by decide
          have hq4 := hh4.eq
          unfold colG at hq4
          clear hh4
          by_cases h5 : t4.kind = 5
          · have t5 : ((t4.kind : Int) != 5) = false := by simp [h5]
            rw [if_neg (by omega)] at hq4
            have hst := sstep_cps s rb t4 a4 0 w4 R _ hs ht4 hr4 hF (.inl ⟨rfl, hq4⟩)
            clear hq4 h5
            go_wp2_with fail
            refine hst.mono ?_
            rintro e w5 ⟨rfl, hg5, a5, er5, t5, ht5, hr5, hh5⟩
            go_wp2_with fail
            go_end0
            exact ⟨rfl, _, _, a5, er5, t5, HL, ht5, hX4.reader hg5 h0 h3, hr5, hh5⟩
          · have t5 : ((t4.kind : Int) != 5) = true := by simp; omega
            rw [if_pos h5] at hq4
            have hf := sfail_cps s rb t4 a4 0 2 w4 R (by decide) hr4 (.inl ⟨rfl, hq4⟩)
            clear hq4 h5
            go_wp2_with fail
            refine hf.mono ?_
            rintro e w5 ⟨rfl, hg5, a5, er5, he5, hr5, hh5⟩
            have hst := sstep_cps s rb t4 a5 er5 w5 R (fun t' => G (ns ++ [t.s]) t') hs ht4 hr5 hF (hh5 _)
            have hX5 := hX4.reader hg5 h0 h3
            go_wp2_with fail
            refine hst.mono ?_
            rintro e w6 ⟨rfl, hg6, a6, er6, t6, ht6, hr6, hh6⟩
            go_wp2_with fail
            go_end0
            exact ⟨rfl, _, _, a6, er6, t6, HL, ht6, hX5.reader hg6 h0 h3, hr6, hh6⟩
        · have te : (er4 == 0) = false := by simp [he4]
          have hst := sstep_cps s rb t4 a4 er4 w4 R (fun t' => G (ns ++ [t.s]) t') hs ht4 hr4 hF (hh4.any he4 _ _)
          clear he4 hh4
          go_wp2_with fail
          refine hst.mono ?_
          rintro e w6 ⟨rfl, hg6, a6, er6, t6, ht6, hr6, hh6⟩
          go_wp2_with fail
          go_end0
          exact ⟨rfl, _, _, a6, er6, t6, HL, ht6, hX4.reader hg6 h0 h3, hr6, hh6⟩

end Go.Proofs.Ythbpkmmnoeikoaa

/-
  The reference's thing, of a list or an object: what lies between two rounds. No condition.
-/
namespace Go.Proofs.Ythbpkmmnoeikoaa
open Go Go.RowKit
set_option linter.unusedVariables false
set_option linter.unusedSimpArgs false

/-- between two rounds -/
def YLoop {β : Type} (s : ByteArray) (rb : Nat) (w W0 : World) (kd : Int) (o : Bool) (th : Tk.Tok → Js.Re (Js.J × Tk.Tok)) (cl : Nat) (C : Js.St × Tk.Tok → Js.Re β) (R : Js.Re β) (k : Nat) (v : Value) (W : World) : Prop :=
  ∃ (m : Int) (n : Nat) (q : Js.St) (vs : List Value) (vn vl : Value) (a er : Int) (t : Tk.Tok), v = .int .i64 m ∧ Hid (m = (n : Int)) ∧ n + k = s.data.toList.length + 3 ∧ q.2.length = n ∧ q.1.length ≤ n ∧ Yg w W0 rb kd (w.heap.size + 3) q.1 q.2 vs [] vn vl vl q.2.length ((vs.map c5).flatten) W ∧ SeC W rb s a er t ∧ t.end' ≤ s.size ∧
    Hid (Js.Hit R (fun t => Js.stA o s.data.toList th cl C n q t) a er t)
/-- behind the last -/
def YEnd {β : Type} (s : ByteArray) (rb : Nat) (w W0 : World) (kd : Int) (C : Js.St × Tk.Tok → Js.Re β) (R : Js.Re β) (W : World) : Prop :=
  ∃ (q : Js.St) (vs : List Value) (vn vl : Value) (a er : Int) (t : Tk.Tok), Yg w W0 rb kd (w.heap.size + 3) q.1 q.2 vs [] vn vl vl q.2.length ((vs.map c5).flatten) W ∧ SeC W rb s a er t ∧ t.end' ≤ s.size ∧ Hid (Js.Hit R (fun t => C (q, t)) a er t)
theorem yg_fr {w0 wi W : World} {rb bs n : Nat} {kd : Int} {ns : List (List UInt8)} {xs : List Js.J} {vs : List Value} {ex : List (Value × Js.J)} {vn vx vl : Value} {cs : List Value} (h : Yg w0 wi rb kd bs ns xs vs ex vn vx vl n cs W) {b : Nat} {o : Obj} (hb : wi.heap[b]? = some o) (h1 : b < bs) (h2 : b ≠ rb) (h3 : b ≠ w0.heap.size + 1) : W.heap[b]? = some o := by
  obtain ⟨D, k, h⟩ := h
  exact (h.fr b h1 h2 h3).trans hb
/-- the contract of the thing of less depth, as the row wants it -/
theorem rth_form {β : Type} {s : ByteArray} {d : Int} {th : Tk.Tok → Js.Re (Js.J × Tk.Tok)} (h : RThOk s d th) (R : Js.Re β) (hF : Js.Fu R) (rb : Nat) (o : Bool) (cl : Nat) (C : Js.St × Tk.Tok → Js.Re β) (n : Nat) (ns : List (List UInt8)) (xs : List Js.J) (a er : Int) (t : Tk.Tok) (ht : t.end' ≤ s.size)
    (hh : Js.Hit R (fun t => Js.stC o s.data.toList th cl C n ns xs t) a er t) :
    Hid (∀ W', SeC W' rb s a er t → Calls Try.prog 51 #[.pointer (some ⟨rb, 0, none⟩), .int .i64 d] W' fun e w' => W'.grownBy w' (some rb) ∧ ∃ (a b : Int) (x : ByteArray) (p1 : Option Addr) (n1 q1 : Nat) (p2 : Option Addr) (n2 q2 k : Nat) (j : Js.J) (a' er' : Int) (t' : Tk.Tok), e = .returned (.agg #[.int .i64 a, .int .i64 b, .string x, .slice p1 n1 q1, .slice p2 n2 q2]) ∧
      t'.end' ≤ s.size ∧ SeC w' rb s a' er' t' ∧ JVn k (fun b => W'.heap.size ≤ b ∧ b < w'.heap.size) w' (.agg #[.int .i64 a, .int .i64 b, .string x, .slice p1 n1 q1, .slice p2 n2 q2]) j ∧ Hid (Js.Hit R (fun t' => Js.stA o s.data.toList th cl C (n + 1) (ns, xs ++ [j]) t') a' er' t')) := by
  refine Lib.hid (fun W' hr => ?_)
  refine (h β R (fun p => Js.stA o s.data.toList th cl C (n + 1) (ns, xs ++ [p.1]) p.2) rb a er t W' hF ht hr hh).mono ?_
  rintro e w' ⟨hg, v, k, j, a', er', t', rfl, ht', hr', hj, hh'⟩
  obtain ⟨a, b, x, p1, n1, q1, p2, n2, q2, rfl⟩ := hj.form2
  exact ⟨hg, a, b, x, p1, n1, q1, p2, n2, q2, k, j, a', er', t', rfl, ht', hr', hj, Lib.hid hh'⟩
theorem yloop_fin {β : Type} {s : ByteArray} {rb : Nat} {w W0 Wf : World} {kd : Int} {o : Bool} {th : Tk.Tok → Js.Re (Js.J × Tk.Tok)} {cl : Nat} {C : Js.St × Tk.Tok → Js.Re β} {R : Js.Re β} {gk : Nat} {m : Int} {q : Js.St} {ns5 : List (List UInt8)} {j : Js.J} {vs' : List Value} {vn vl : Value} {a' er' : Int} {t' : Tk.Tok}
    (hm : m + 1 = ((q.2.length + 1 : Nat) : Int)) (hk : q.2.length + gk = s.data.toList.length + 3) (h1 : 1 ≤ gk) (hnn : ns5.length ≤ q.2.length + 1) (F1 : Yg w W0 rb kd (w.heap.size + 3) ns5 (q.2 ++ [j]) vs' [] vn vl vl (q.2 ++ [j]).length ((vs'.map c5).flatten) Wf) (R1 : SeC Wf rb s a' er' t') (ht : t'.end' ≤ s.size)
    (HH : Hid (Js.Hit R (fun t' => Js.stA o s.data.toList th cl C (q.2.length + 1) (ns5, q.2 ++ [j]) t') a' er' t')) : YLoop s rb w W0 kd o th cl C R (gk - 1) (.int .i64 (m + 1)) Wf :=
  ⟨m + 1, q.2.length + 1, (ns5, q.2 ++ [j]), vs', vn, vl, a', er', t', rfl, Lib.hid hm, by omega, by simp, hnn, F1, R1, ht, HH⟩

end Go.Proofs.Ythbpkmmnoeikoaa
