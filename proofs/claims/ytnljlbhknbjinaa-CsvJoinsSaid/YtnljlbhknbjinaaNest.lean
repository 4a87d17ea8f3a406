/-
  Rows of texts in memory: rows that a call owns (a slice of slices of strings), how one grows, and how rows are read. No program text is walked here.
-/
import Derived.Test.YtnljlbhknbjinaaKit
import Derived.RangeFuncBox
import Derived.RangeFuncWrites
import Derived.Maps.AppendAt
import Derived.Lib.BufferWrite
namespace Go.Proofs.Ytnljlbhknbjinaa
open Go Go.RowKit
set_option linter.unusedVariables false

/-- every block of cells lies as it lay -/
def CK (W W' : World) : Prop := ∀ (k : Nat) (o : Obj), W.heap[k]? = some o → o.isCells = true → W'.heap[k]? = some o
theorem CK.below {W W' : World} (h : Below W.heap.size W W') : CK W W' := fun k o ho _ => (h.block k (Array.getElem?_eq_some_iff.1 ho).1).trans ho
theorem CK.grown {W W' : World} {row : Option Nat} (hg : W.grownBy W' row) (hr : ∀ r, row = some r → ∃ o : Obj, W.heap[r]? = some o ∧ o.isCells = false) : CK W W' := fun k o ho hc =>
  (hg.block k (Array.getElem?_eq_some_iff.1 ho).1 (fun e => by obtain ⟨o', h1, h2⟩ := hr k e.symm; rw [ho] at h1; cases h1; rw [hc] at h2; cases h2)).trans ho
theorem CK.boxed {W W' : World} {b : Nat} {t : TypeId} {v : Value} (h : CK W W') (hb : Boxed W b t v) : Boxed W' b t v := h b _ hb rfl
theorem CK.owns {W W' : World} {base size n : Nat} {e : TypeId} {v : Value} {xs : List Value} (h : CK W W') (ho : W.ownsRow base e size v n xs) : W'.ownsRow base e size v n xs :=
  ⟨ho.1, ho.2.imp id (fun ⟨g, cap, cur, e1, e2, e3, rest⟩ => ⟨g, cap, cur, e1, e2, h g _ e3 rfl, rest⟩)⟩
theorem CK.trans {A B C : World} (h : CK A B) (k : CK B C) : CK A C := fun i o ho hc => k i o (h i o ho hc) hc

/-- two slices of rows of different element types lie in different blocks -/
theorem owns_ne {W : World} {b1 b2 s1 s2 n1 n2 : Nat} {e1 e2 : TypeId} {v1 v2 : Value} {x1 x2 : List Value} (hne : e1 ≠ e2) (h1 : W.ownsRow b1 e1 s1 v1 n1 x1) (h2 : W.ownsRow b2 e2 s2 v2 n2 x2) : ∀ g, v1.ownBlock = some g → v2.ownBlock ≠ some g := by
  intro g hg hg2
  rcases h1.2 with ⟨rfl, _⟩ | ⟨g1, c1, cur1, rfl, _, hb1, _⟩
  · simp [Value.ownBlock] at hg
  · rcases h2.2 with ⟨rfl, _⟩ | ⟨g2, c2, cur2, rfl, _, hb2, _⟩
    · simp [Value.ownBlock] at hg2
    · simp only [Value.ownBlock, Option.some.injEq] at hg hg2
      subst hg; subst hg2
      rw [hb1] at hb2
      simp only [Option.some.injEq, Obj.cells.injEq] at hb2
      exact hne hb2.2.1

abbrev strs (r : List (List UInt8)) : List Value := r.map str

/-- rows of the call's own -/
def Rws (n₀ : Nat) (W : World) (vo : Value) (vs : List Value) (rs : List (List (List UInt8))) : Prop :=
  W.ownsRow n₀ 38 1 vo rs.length vs ∧ (∀ (j : Nat) (x : Value) (r : List (List UInt8)), vs[j]? = some x → rs[j]? = some r → W.ownsRow n₀ 9 1 x r.length (strs r)) ∧
  vs.Pairwise (fun a b => ∀ g, a.ownBlock = some g → b.ownBlock ≠ some g)

theorem Rws.len {n₀ : Nat} {W : World} {vo : Value} {vs : List Value} {rs : List (List (List UInt8))} (h : Rws n₀ W vo vs rs) : vs.length = rs.length := by
  have := h.1.1; omega
theorem Rws.ck {n₀ : Nat} {W W' : World} {vo : Value} {vs : List Value} {rs : List (List (List UInt8))} (h : Rws n₀ W vo vs rs) (hc : CK W W') : Rws n₀ W' vo vs rs :=
  ⟨hc.owns h.1, fun j x r hx hr => hc.owns (h.2.1 j x r hx hr), h.2.2⟩
theorem Rws.start (n₀ : Nat) (W : World) : Rws n₀ W (.slice none 0 0) [] [] := ⟨World.ownsRow_nil _ _ _ _, fun j x r hx _ => by simp at hx, List.Pairwise.nil⟩

theorem getElem?_snoc_cases {α : Type} {l : List α} {a x : α} {j : Nat} (h : (l ++ [a])[j]? = some x) : l[j]? = some x ∨ (j = l.length ∧ x = a) := by
  rw [List.getElem?_append] at h
  split at h
  · exact .inl h
  · rename_i hj
    right
    have hj2 : j - l.length = 0 := by
      by_cases e : j - l.length = 0
      · exact e
      · rw [List.getElem?_eq_none (by simp; omega)] at h; cases h
    rw [hj2] at h
    exact ⟨by omega, by simpa using h.symm⟩

/-- a row begun -/
theorem Rws.newrow {n₀ : Nat} {W w1 : World} {vo v' : Value} {vs : List Value} {rs : List (List (List UInt8))} (h : Rws n₀ W vo vs rs) (hg : W.grownBy w1 vo.ownBlock) (hown : w1.ownsRow n₀ 38 1 v' (rs.length + 1) (vs ++ [.slice none 0 0])) :
    Rws n₀ w1 v' (vs ++ [.slice none 0 0]) (rs ++ [[]]) := by
  refine ⟨by simpa using hown, ?_, ?_⟩
  · intro j x r hx hr
    rcases getElem?_snoc_cases hx with hx | ⟨hj, rfl⟩
    · rcases getElem?_snoc_cases hr with hr | ⟨hj, rfl⟩
      · have hi := h.2.1 j x r hx hr
        refine hi.kept hg ?_
        cases hb : x.ownBlock with
        | none => exact .inl rfl
        | some g => exact .inr (fun e => owns_ne (by decide) hi h.1 g hb e.symm)
      · have := (List.getElem?_eq_some_iff.1 hx).1
        have := h.len; omega
    · rcases getElem?_snoc_cases hr with hr | ⟨_, rfl⟩
      · have := (List.getElem?_eq_some_iff.1 hr).1
        have := h.len; omega
      · exact World.ownsRow_nil _ _ _ _
  · rw [List.pairwise_append]
    refine ⟨h.2.2, by simp, ?_⟩
    intro a _ b hb g _
    simp at hb; subst hb; simp [Value.ownBlock]

/-- the last row -/
theorem Rws.last {n₀ : Nat} {W : World} {vo : Value} {vs : List Value} {dr : List (List (List UInt8))} {r : List (List UInt8)} (h : Rws n₀ W vo vs (dr ++ [r])) :
    ∃ ds u go cap, vs = ds ++ [u] ∧ ds.length = dr.length ∧ vo = .slice (some ⟨go, 0, none⟩) (dr.length + 1) cap ∧ W.cell? ⟨go, dr.length, none⟩ = some u ∧ W.frozen? ⟨go, dr.length, none⟩ = false ∧ W.ownsRow n₀ 9 1 u r.length (strs r) ∧ n₀ ≤ go ∧ go < W.heap.size ∧ u.ownBlock ≠ some go := by
  have hl := h.len
  have hne : vs ≠ [] := by intro e; subst e; simp at hl
  obtain ⟨ds, u, rfl⟩ : ∃ ds u, vs = ds ++ [u] := ⟨vs.dropLast, vs.getLast hne, (List.dropLast_concat_getLast hne).symm⟩
  have hdl : ds.length = dr.length := by simp at hl; exact hl
  obtain ⟨hr1, hr2, hr3⟩ := h
  have hu := hr2 ds.length u r (by simp) (by simp [hdl])
  rcases hr1.2 with ⟨_, h0⟩ | ⟨go, cap, cur, rfl, hbase, hblk, hcap, hmax, hsz, htake⟩
  · simp at h0
  · have hcur : cur.toList[dr.length]? = some u := by
      have h1 : (cur.toList.take ((dr ++ [r]).length * 1))[dr.length]? = some u := by rw [htake, ← hdl]; simp
      rw [List.getElem?_take] at h1
      split at h1
      · exact h1
      · cases h1
    refine ⟨ds, u, go, cap, rfl, hdl, by simp, ?_, ?_, hu, hbase, (Array.getElem?_eq_some_iff.1 hblk).1, ?_⟩
    · rw [cell_of_row W go dr.length cur _ (0, 0) hblk]; simpa using hcur
    · simp [World.frozen?, hblk]
    · intro e
      exact owns_ne (by decide) hu (⟨hr1.1, .inr ⟨go, cap, cur, rfl, hbase, hblk, hcap, hmax, hsz, htake⟩⟩ : W.ownsRow n₀ 38 1 _ _ _) go e rfl

/-- the last row grown by a text, and laid back -/
theorem Rws.put {n₀ : Nat} {W w1 : World} {vo u : Value} {ds : List Value} {dr : List (List (List UInt8))} {r : List (List UInt8)} {f : List UInt8} {go cap g cap' : Nat} (h : Rws n₀ W vo (ds ++ [u]) (dr ++ [r])) (hvo : vo = .slice (some ⟨go, 0, none⟩) (dr.length + 1) cap) (hn : n₀ ≤ W.heap.size)
    (hg : W.grownBy w1 u.ownBlock) (hown : w1.ownsRow n₀ 9 1 (.slice (some ⟨g, 0, none⟩) (r.length + 1) cap') (r.length + 1) (strs r ++ [str f])) (hfr : u.ownBlock = some g ∨ g = W.heap.size) :
    Rws n₀ (w1.setCell ⟨go, dr.length, none⟩ (.slice (some ⟨g, 0, none⟩) (r.length + 1) cap')) vo (ds ++ [.slice (some ⟨g, 0, none⟩) (r.length + 1) cap']) (dr ++ [r ++ [f]]) ∧
    (w1.setCell ⟨go, dr.length, none⟩ (.slice (some ⟨g, 0, none⟩) (r.length + 1) cap')).heap.size = w1.heap.size := by
  have hl := h.len
  have hdl : ds.length = dr.length := by simp at hl; exact hl
  obtain ⟨hr1, hr2, hr3⟩ := h
  have hu := hr2 ds.length u r (by simp) (by simp [hdl])
  have hgo : u.ownBlock ≠ some go := fun e => owns_ne (by decide) hu hr1 go e (by rw [hvo]; rfl)
  have hr1' := hr1.kept hg (by rw [hvo]; exact .inr (fun e => hgo e.symm))
  have hgne : g ≠ go := by
    intro e
    subst e
    have hgb : (Value.slice (some ⟨g, 0, none⟩) (r.length + 1) cap').ownBlock = some g := rfl
    exact owns_ne (by decide) hown hr1' g hgb (by rw [hvo]; rfl)
  have hsg := Lib.grownBy_setCell w1 go dr.length (.slice (some ⟨g, 0, none⟩) (r.length + 1) cap')
  refine ⟨⟨?_, ?_, ?_⟩, by simp [World.setCell]⟩
  · rcases hr1'.2 with ⟨e, _⟩ | ⟨go', cap2, cur, e, hbase, hblk, hcap, hmax, hsz, htake⟩
    · rw [hvo] at e; cases e
    · rw [hvo] at e
      simp only [Value.slice.injEq, Option.some.injEq, Addr.mk.injEq] at e
      obtain ⟨⟨rfl, _⟩, _, rfl⟩ := e
      refine ⟨by simp [hdl], .inr ⟨go, cap, cur.setIfInBounds dr.length (.slice (some ⟨g, 0, none⟩) (r.length + 1) cap'), by rw [hvo]; simp, hbase, ?_, by simpa using hcap, hmax, by simpa using hsz, ?_⟩⟩
      · have hlt := (Array.getElem?_eq_some_iff.1 hblk)
        show (w1.heap.modify go _)[go]? = _
        rw [Array.getElem?_eq_getElem (by rw [Array.size_modify]; exact hlt.1), Array.getElem_modify_self, hlt.2]
        rfl
      · simp only [List.length_append, List.length_cons, List.length_nil, Nat.zero_add, Nat.mul_one] at htake ⊢
        rw [Array.toList_setIfInBounds, List.take_set, htake, List.set_append]
        simp [hdl]
  · intro j x rr hx hrr
    rcases getElem?_snoc_cases hx with hx | ⟨hj, rfl⟩
    · rcases getElem?_snoc_cases hrr with hrr | ⟨hj, rfl⟩
      · have hjl := (List.getElem?_eq_some_iff.1 hx).1
        have hi := hr2 j x rr (by rw [List.getElem?_append_left hjl]; exact hx) (by rw [List.getElem?_append_left (by omega)]; exact hrr)
        have hpw : ∀ q, x.ownBlock = some q → u.ownBlock ≠ some q := by
          rw [List.pairwise_append] at hr3
          exact hr3.2.2 x (List.mem_of_getElem? hx) u (by simp)
        have hi1 := hi.kept hg (by
          cases hb : x.ownBlock with
          | none => exact .inl rfl
          | some q => exact .inr (fun e => hpw q hb e.symm))
        refine hi1.kept hsg ?_
        cases hb : x.ownBlock with
        | none => exact .inl rfl
        | some q => exact .inr (fun e => owns_ne (by decide) hi1 hr1' q hb (by rw [hvo, e]; rfl))
      · have := (List.getElem?_eq_some_iff.1 hx).1
        omega
    · rcases getElem?_snoc_cases hrr with hrr | ⟨_, rfl⟩
      · have := (List.getElem?_eq_some_iff.1 hrr).1
        omega
      · have := hown.kept hsg (.inr (by simp [Value.ownBlock]; exact hgne))
        simpa [strs] using this
  · rw [List.pairwise_append] at hr3 ⊢
    refine ⟨hr3.1, by simp, ?_⟩
    intro a ha b hb q hq
    simp at hb; subst hb
    simp only [Value.ownBlock, ne_eq, Option.some.injEq]
    intro e
    subst e
    rcases hfr with hf | hf
    · exact hr3.2.2 a ha u (by simp) g hq hf
    · obtain ⟨j, hj⟩ := List.getElem?_of_mem ha
      have hjl := (List.getElem?_eq_some_iff.1 hj).1
      have hi := hr2 j a (dr[j]'(by omega)) (by rw [List.getElem?_append_left hjl]; exact hj) (by rw [List.getElem?_append_left (by omega)]; simp)
      have := (hi.lt g hq).2
      omega

/-! ### reading -/
/-- v is a slice of the strings xs -/
def StrsV (w : World) (v : Value) (xs : List (List UInt8)) : Prop :=
  ∃ p cap, v = .slice p xs.length cap ∧ ∀ (j : Nat) (hj : j < xs.length), ∃ b o, p = some ⟨b, o, none⟩ ∧ w.cell? ⟨b, o + j, none⟩ = some (str xs[j])
/-- v is a slice of the rows rs -/
def RowsV (w : World) (v : Value) (rs : List (List (List UInt8))) : Prop :=
  ∃ p cap, v = .slice p rs.length cap ∧ ∀ (j : Nat) (hj : j < rs.length), ∃ b o x, p = some ⟨b, o, none⟩ ∧ w.cell? ⟨b, o + j, none⟩ = some x ∧ StrsV w x rs[j]
theorem StrsV.form {w : World} {v : Value} {xs : List (List UInt8)} (h : StrsV w v xs) : ∃ p cap, v = .slice p xs.length cap ∧ ∀ (j : Nat) (hj : j < xs.length), ∃ b o, p = some ⟨b, o, none⟩ ∧ w.cell? ⟨b, o + j, none⟩ = some (str xs[j]) := h
theorem RowsV.form {w : World} {v : Value} {rs : List (List (List UInt8))} (h : RowsV w v rs) : ∃ p cap, v = .slice p rs.length cap ∧ ∀ (j : Nat) (hj : j < rs.length), ∃ b o x, p = some ⟨b, o, none⟩ ∧ w.cell? ⟨b, o + j, none⟩ = some x ∧ StrsV w x rs[j] := h
theorem StrsV.mk {w : World} {b o cap : Nat} {xs : List (List UInt8)} (h : ∀ (j : Nat) (hj : j < xs.length), w.cell? ⟨b, o + j, none⟩ = some (str xs[j])) : StrsV w (.slice (some ⟨b, o, none⟩) xs.length cap) xs :=
  ⟨_, _, rfl, fun j hj => ⟨b, o, rfl, h j hj⟩⟩
theorem StrsV.mk0 {w : World} {p : Option Addr} {cap : Nat} : StrsV w (.slice p 0 cap) [] := ⟨_, _, rfl, fun j hj => absurd hj (by simp)⟩
theorem RowsV.mk {w : World} {b o cap : Nat} {rs : List (List (List UInt8))} (h : ∀ (j : Nat) (hj : j < rs.length), ∃ x, w.cell? ⟨b, o + j, none⟩ = some x ∧ StrsV w x rs[j]) : RowsV w (.slice (some ⟨b, o, none⟩) rs.length cap) rs :=
  ⟨_, _, rfl, fun j hj => let ⟨x, h1, h2⟩ := h j hj; ⟨b, o, x, rfl, h1, h2⟩⟩
theorem RowsV.mk0 {w : World} {p : Option Addr} {cap : Nat} : RowsV w (.slice p 0 cap) [] := ⟨_, _, rfl, fun j hj => absurd hj (by simp)⟩

theorem cell_below {w w' : World} (h : Below w.heap.size w w') {a : Addr} {v : Value} (hc : w.cell? a = some v) : w'.cell? a = some v :=
  (World.cell?_of_block (h.block a.block (World.block_lt_of_cell? w a hc))).trans hc
theorem StrsV.below {w w' : World} {v : Value} {xs : List (List UInt8)} (h : StrsV w v xs) (hb : Below w.heap.size w w') : StrsV w' v xs :=
  let ⟨p, cap, e, hc⟩ := h
  ⟨p, cap, e, fun j hj => let ⟨b, o, h1, h2⟩ := hc j hj; ⟨b, o, h1, cell_below hb h2⟩⟩
theorem RowsV.below {w w' : World} {v : Value} {rs : List (List (List UInt8))} (h : RowsV w v rs) (hb : Below w.heap.size w w') : RowsV w' v rs :=
  let ⟨p, cap, e, hc⟩ := h
  ⟨p, cap, e, fun j hj => let ⟨b, o, x, h1, h2, h3⟩ := hc j hj; ⟨b, o, x, h1, cell_below hb h2, h3.below hb⟩⟩

theorem owns_cells {w : World} {base n : Nat} {e : TypeId} {v : Value} {xs : List Value} (h : w.ownsRow base e 1 v n xs) :
    (v = .slice none 0 0 ∧ n = 0) ∨ ∃ b cap, v = .slice (some ⟨b, 0, none⟩) n cap ∧ ∀ (j : Nat) (x : Value), xs[j]? = some x → w.cell? ⟨b, 0 + j, none⟩ = some x := by
  rcases h.2 with h0 | ⟨g, cap, cur, rfl, hb, hblk, hcap, _, hsz, htake⟩
  · exact .inl h0
  · right
    refine ⟨g, cap, rfl, fun j x hx => ?_⟩
    rw [← htake, List.getElem?_take] at hx
    split at hx
    · rw [Nat.zero_add, cell_of_row w g j cur _ (0, 0) hblk]; simpa using hx
    · cases hx
theorem StrsV.of_owns {w : World} {base : Nat} {v : Value} {r : List (List UInt8)} (h : w.ownsRow base 9 1 v r.length (strs r)) : StrsV w v r := by
  rcases owns_cells h with ⟨e, h0⟩ | ⟨b, cap, e, hc⟩
  · obtain rfl := List.eq_nil_of_length_eq_zero h0
    rw [e]; exact StrsV.mk0
  · rw [e]; exact StrsV.mk (fun j hj => hc j _ (by simp [hj]))
theorem RowsV.of_rws {n₀ : Nat} {W : World} {vo : Value} {vs : List Value} {rs : List (List (List UInt8))} (h : Rws n₀ W vo vs rs) : RowsV W vo rs := by
  have hl := h.len
  rcases owns_cells h.1 with ⟨e, h0⟩ | ⟨b, cap, e, hc⟩
  · obtain rfl := List.eq_nil_of_length_eq_zero h0
    rw [e]; exact RowsV.mk0
  · rw [e]; refine RowsV.mk (fun j hj => ⟨vs[j]'(by omega), hc j _ (by simp), ?_⟩)
    exact StrsV.of_owns (h.2.1 j _ _ (by simp) (by simp [hj]))

end Go.Proofs.Ytnljlbhknbjinaa
