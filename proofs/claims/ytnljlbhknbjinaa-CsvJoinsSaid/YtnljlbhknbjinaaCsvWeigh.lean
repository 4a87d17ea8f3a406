/-
  How long rows' texts are: of rows that are not too heavy, and of rows that were read. No program text.
-/
import Derived.Test.YtnljlbhknbjinaaCsvLaws
namespace Go.Proofs.Ytnljlbhknbjinaa
open Go.RowKit
set_option linter.unusedVariables false

namespace Cs
/-- a row's weight without the row's own 1 -/
def wr : List F → Nat
  | [] => 0
  | f :: r => 1 + f.length + wr r
/-- what Great sums -/
def wt : List (List F) → Nat
  | [] => 0
  | r :: rs => 1 + wr r + wt rs
theorem wr_append : ∀ a b : List F, wr (a ++ b) = wr a + wr b
  | [], b => by simp [wr]
  | f :: a, b => by simp only [List.cons_append, wr, wr_append a b]; omega
theorem wt_append : ∀ a b : List (List F), wt (a ++ b) = wt a + wt b
  | [], b => by simp [wt]
  | f :: a, b => by simp only [List.cons_append, wt, wt_append a b]; omega
theorem wr_take {r : List F} {m : Nat} (h : m < r.length) : wr (r.take (m + 1)) = wr (r.take m) + (1 + r[m].length) := by
  rw [List.take_add_one, List.getElem?_eq_getElem h, Option.toList_some, wr_append]; simp [wr]
theorem wt_take {rs : List (List F)} {k : Nat} (h : k < rs.length) : wt (rs.take (k + 1)) = wt (rs.take k) + (1 + wr rs[k]) := by
  rw [List.take_add_one, List.getElem?_eq_getElem h, Option.toList_some, wt_append]; simp [wt]
theorem wr_mono (r : List F) (m : Nat) : wr (r.take m) ≤ wr r := by
  have := wr_append (r.take m) (r.drop m)
  rw [List.take_append_drop] at this; omega
theorem wt_mono (rs : List (List F)) (k : Nat) : wt (rs.take k) ≤ wt rs := by
  have := wt_append (rs.take k) (rs.drop k)
  rw [List.take_append_drop] at this; omega
theorem field_max (f : F) : (field f).length ≤ 2 * f.length + 2 := by
  unfold field
  split
  · omega
  · have := dbl_len f; simp; omega
theorem fields_max : ∀ r : List F, (fields r).length ≤ 3 * wr r
  | [] => by simp [fields]
  | [f] => by have := field_max f; simp only [fields, wr]; omega
  | f :: g :: r => by
    have h1 := field_max f
    have h2 := fields_max (g :: r)
    rw [fields]
    · simp only [List.length_append, List.length_cons]
      rw [wr]; omega
    · simp
theorem rowsT_cons (r : List F) (rs : List (List F)) : rowsT (r :: rs) = rowT r ++ rowsT rs := by simp [rowsT]
theorem rowsT_append (a b : List (List F)) : rowsT (a ++ b) = rowsT a ++ rowsT b := by simp [rowsT]
theorem rowsT_max : ∀ rs : List (List F), (rowsT rs).length ≤ 3 * wt rs
  | [] => by simp [rowsT]
  | r :: rs => by
    have h1 := fields_max r
    have h2 := rowsT_max rs
    rw [rowsT_cons, List.length_append, wt, rowT, List.length_append]
    simp only [List.length_cons, List.length_nil]; omega
theorem wr_len : ∀ r : List F, r.length ≤ wr r
  | [] => Nat.le_refl _
  | f :: r => by have := wr_len r; simp only [List.length_cons, wr]; omega
theorem wt_len : ∀ rs : List (List F), rs.length ≤ wt rs
  | [] => Nat.le_refl _
  | r :: rs => by have := wt_len rs; simp only [List.length_cons, wt]; omega
theorem wr_mem {r : List F} {f : F} (h : f ∈ r) : 1 + f.length ≤ wr r := by
  obtain ⟨a, b, rfl⟩ := List.append_of_mem h
  rw [wr_append, wr]; omega
theorem wt_mem {rs : List (List F)} {r : List F} (h : r ∈ rs) : 1 + wr r ≤ wt rs := by
  obtain ⟨a, b, rfl⟩ := List.append_of_mem h
  rw [wt_append, wt]; omega

/-- by counts -/
theorem wr_count {C : Nat} : ∀ r : List F, (∀ f ∈ r, f.length ≤ C) → wr r ≤ r.length * (C + 1)
  | [], _ => by simp [wr]
  | f :: r, h => by
    have h1 := h f (by simp)
    have h2 := wr_count r (fun g hg => h g (by simp [hg]))
    rw [wr, List.length_cons, Nat.succ_mul]; omega
theorem wt_count {B : Nat} : ∀ rs : List (List F), (∀ r ∈ rs, wr r ≤ B) → wt rs ≤ rs.length * (B + 1)
  | [], _ => by simp [wt]
  | f :: r, h => by
    have h1 := h f (by simp)
    have h2 := wt_count r (fun g hg => h g (by simp [hg]))
    rw [wt, List.length_cons, Nat.succ_mul]; omega

theorem beh_f (l f : F) : (beh l f).1.length ≤ f.length := by
  unfold beh
  split
  · exact Nat.le_refl _
  · split
    · exact Nat.le_refl _
    · split
      · exact Nat.le_refl _
      · simp
theorem quo_f : ∀ (l acc : F), (quo l acc).1.length ≤ acc.length + l.length
  | [], acc => by simp [quo]
  | [c], acc => by
    unfold quo
    split
    · have := beh_f [] acc; simp only [sh, List.length_cons, List.length_nil]; omega
    · simp
  | c :: d :: r, acc => by
    unfold quo
    split
    · have := quo_f (d :: r) (acc ++ [c])
      simp only [sh, List.length_append, List.length_cons, List.length_nil] at *; omega
    · split
      · have := quo_f r (acc ++ [34])
        simp only [sh, List.length_append, List.length_cons, List.length_nil] at *; omega
      · have := beh_f (d :: r) acc
        simp only [sh, List.length_cons] at *; omega
theorem fld_f (l : F) : (fld l).1.length ≤ l.length := by
  unfold fld
  split
  · have := quo_f l.tail []
    simp only [sh, List.length_tail, List.length_nil] at *; omega
  · have := beh_f (l.drop (plain l)) (l.take (plain l))
    simp only [sh, List.length_take] at *; omega
theorem pcs_f : ∀ (n : Nat) (l : F) (i : Nat), ∀ p ∈ pcs n l i, p.1.length ≤ l.length
  | 0, l, i, p, h => by simp [pcs] at h
  | n + 1, l, i, p, h => by
    have hf := fld_f l
    unfold pcs at h
    dsimp only at h
    rw [List.mem_cons] at h
    rcases h with h | h
    · subst h; exact hf
    · split at h
      · simp at h
      · have := pcs_f n _ _ p h
        rw [List.length_drop] at this; omega
theorem bld_f {C : Nat} : ∀ (l : List P) (o : List (List F) × Bool), (∀ r ∈ o.1, ∀ f ∈ r, f.length ≤ C) → (∀ p ∈ l, p.1.length ≤ C) → ∀ r ∈ (l.foldl bstep o).1, ∀ f ∈ r, f.length ≤ C
  | [], o, ho, _ => ho
  | p :: l, o, ho, hl => by
    rw [List.foldl_cons]
    refine bld_f l _ ?_ (fun q hq => hl q (by simp [hq]))
    have hp := hl p (by simp)
    intro r hr f hf
    unfold bstep at hr
    dsimp only at hr
    split at hr
    · rw [List.mem_append] at hr
      rcases hr with hr | hr
      · exact ho r hr f hf
      · simp only [List.mem_cons, List.not_mem_nil, or_false] at hr
        subst hr
        simp only [List.mem_cons, List.not_mem_nil, or_false] at hf
        subst hf; exact hp
    · rw [List.mem_append] at hr
      rcases hr with hr | hr
      · exact ho r ((List.dropLast_sublist _).subset hr) f hf
      · simp only [List.mem_cons, List.not_mem_nil, or_false] at hr
        subst hr
        rw [List.mem_append] at hf
        rcases hf with hf | hf
        · cases hx : o.1.getLast? with
          | none => rw [hx] at hf; simp at hf
          | some y =>
            rw [hx] at hf
            exact ho y (List.mem_of_getLast? hx) f hf
        · simp only [List.mem_cons, List.not_mem_nil, or_false] at hf
          subst hf; exact hp
theorem parse_f (l : F) : ∀ r ∈ (parse l).1, ∀ f ∈ r, f.length ≤ l.length := by
  by_cases hl : l = []
  · subst hl; simp [parse]
  · rcases prs_pcs (l.length + 1) l 0 [] [] ([], true) (by omega) (.inl ⟨rfl, rfl⟩) with ⟨p2, p, e1, e2, e3, e4⟩ | ⟨e1, e2⟩
    · have hp : parse l = prs (l.length + 1) l 0 [] [] := by unfold parse; rw [if_neg hl]
      rw [hp, e4]; simp
    · rw [parse_done hl e1]
      exact bld_f _ ([], true) (by simp) (pcs_f _ _ _)
/-- rows read out of a text of 1000 bytes are no heavier than this -/
theorem parse_wt (l : F) (h : l.length ≤ 1000) : wt (parse l).1 ≤ 1003004002 := by
  obtain ⟨h1, h2⟩ := parse_bounds l
  have h3 := parse_f l
  have h4 : ∀ r ∈ (parse l).1, wr r ≤ 1002001 := by
    intro r hr
    have := wr_count (C := 1000) r (fun f hf => Nat.le_trans (h3 r hr f hf) h)
    have h5 : r.length ≤ 1001 := by have := h2 r hr; omega
    have : r.length * (1000 + 1) ≤ 1001 * (1000 + 1) := Nat.mul_le_mul_right _ h5
    omega
  have h6 := wt_count (parse l).1 h4
  have h7 : (parse l).1.length * (1002001 + 1) ≤ 1001 * (1002001 + 1) := Nat.mul_le_mul_right _ (by omega)
  omega
end Cs

end Go.Proofs.Ytnljlbhknbjinaa
