/-
  A text's tokens, one behind the other, with the place behind each, up to the end or an error. No program text.
-/
import Derived.Test.YthbpkmmnoeikoaaTokNext
namespace Go.Proofs.Ythbpkmmnoeikoaa
set_option linter.unusedVariables false
set_option linter.unusedSimpArgs false

theorem txt_le : ∀ (n : Nat) (l a : List UInt8), (Tk.txt n l a).2.1 ≤ l.length
  | 0, _, _ => by simp [Tk.txt]
  | n + 1, [], _ => by simp [Tk.txt]
  | n + 1, c :: r, a => by
    rw [Tk.txt]
    split
    · simp
    · split
      · cases he : Tk.esc (c :: r) with
        | none => simp
        | some p =>
          have h1 := esc_len he
          have h2 := txt_le n ((c :: r).drop p.2) (a ++ p.1)
          rw [List.length_drop] at h2
          simp only [Tk.sh]; omega
      · cases hg : Uf.get (c :: r) with
        | none => simp
        | some p =>
          have h1 := get_len hg
          have h2 := txt_le n ((c :: r).drop p.2) (a ++ (c :: r).take p.2)
          rw [List.length_drop] at h2
          dsimp only
          split
          · simp
          · simp only [Tk.sh]; omega

theorem mark_pos {c : UInt8} {j : Nat} (h : Tk.mark c = some j) : 1 ≤ j ∧ j ≤ 6 := by
  unfold Tk.mark at h
  repeat' split at h
  all_goals first | (cases h; omega) | (cases h)
theorem span_pos {p : UInt8 → Bool} {c : UInt8} (r : List UInt8) (h : p c = true) : 1 ≤ Tk.span p (c :: r) := by rw [Tk.span_cons, if_pos h]; omega

structure TokOk (k n : Nat) (p : Tk.Tok × Nat × Int) : Prop where
  lo : k ≤ p.2.1
  hi : p.2.1 ≤ k + n
  at' : p.2.2 = 0 → p.1.at' = k
  end' : p.2.2 = 0 → p.1.end' = p.2.1
  fin : p.2.2 = 0 → p.1.kind = 0 → n = 0
  go : p.2.2 = 0 → p.1.kind ≠ 0 → k < p.2.1

theorem tok_ok (k : Nat) (m : List UInt8) : TokOk k m.length (Tk.tok k m) := by
  cases m with
  | nil => exact ⟨Nat.le_refl _, Nat.le_refl _, fun _ => rfl, fun _ => rfl, fun _ _ => rfl, fun _ h => absurd rfl h⟩
  | cons c r =>
    rw [Tk.tok]
    cases hm : Tk.mark c with
    | some j =>
      have := mark_pos hm
      exact ⟨by simp, by simp, fun _ => rfl, fun _ => rfl, fun _ h => by simp at h; omega, fun _ _ => by simp⟩
    | none =>
      dsimp only
      by_cases h34 : c = 34
      · rw [if_pos h34]
        have h := txt_le (r.length + 1) r []
        split
        · exact ⟨by dsimp only; omega, by dsimp only [List.length_cons]; omega, fun _ => rfl, fun _ => rfl, fun _ h => by simp at h, fun _ _ => by dsimp only; omega⟩
        · exact ⟨by dsimp only; omega, by dsimp only [List.length_cons]; omega, fun h => by simp at h, fun h => by simp at h, fun h => by simp at h, fun h => by simp at h⟩
      · rw [if_neg h34]
        by_cases hd : Tk.dig c = true ∨ c = 45
        · rw [if_pos hd]
          have h1 := Tk.span_le Tk.numc (c :: r)
          have h2 : 1 ≤ Tk.span Tk.numc (c :: r) := span_pos r (by unfold Tk.numc; rcases hd with h | h <;> simp [h])
          split
          · rename_i he
            exact ⟨by dsimp only; omega, by dsimp only [List.length_cons]; omega, fun h => absurd h he, fun h => absurd h he, fun h => absurd h he, fun h => absurd h he⟩
          · exact ⟨by dsimp only; omega, by dsimp only; omega, fun _ => rfl, fun _ => rfl, fun _ h => by simp at h, fun _ _ => by dsimp only; omega⟩
        · rw [if_neg hd]
          have h1 := Tk.span_le Tk.let' (c :: r)
          split
          · rename_i hw
            have h2 : 1 ≤ Tk.span Tk.let' (c :: r) := by
              rcases Nat.eq_zero_or_pos (Tk.span Tk.let' (c :: r)) with h | h
              · have : (c :: r).takeWhile Tk.let' = [] := List.eq_nil_of_length_eq_zero h
                rw [this] at hw
                simp [Tk.word] at hw
              · exact h
            exact ⟨by dsimp only; omega, by dsimp only; omega, fun _ => rfl, fun _ => rfl, fun _ h => by simp at h, fun _ _ => by dsimp only; omega⟩
          · exact ⟨by dsimp only; omega, by dsimp only [List.length_cons]; omega, fun h => by simp at h, fun h => by simp at h, fun h => by simp at h, fun h => by simp at h⟩

structure NextOk (l : List UInt8) (a : Nat) (p : Tk.Tok × Nat × Int) : Prop where
  lo : a ≤ p.2.1
  hi : p.2.1 ≤ l.length
  at' : p.2.2 = 0 → a ≤ p.1.at'
  end' : p.2.2 = 0 → p.1.end' = p.2.1
  fin : p.2.2 = 0 → p.1.kind = 0 → p.2.1 = l.length ∧ p.1.at' = p.1.end'
  go : p.2.2 = 0 → p.1.kind ≠ 0 → a < p.2.1 ∧ p.1.at' < p.1.end'

theorem next_ok (l : List UInt8) (a : Nat) (ha : a ≤ l.length) : NextOk l a (Tk.next l a) := by
  unfold Tk.next
  have h1 := Tk.span_le Tk.blank (l.drop a)
  rw [List.length_drop] at h1
  have h := tok_ok (a + Tk.span Tk.blank (l.drop a)) (l.drop (a + Tk.span Tk.blank (l.drop a)))
  rw [List.length_drop] at h
  generalize Tk.span Tk.blank (l.drop a) = b at *
  generalize Tk.tok (a + b) (l.drop (a + b)) = p at *
  have h2 := h.lo
  have h3 := h.hi
  exact ⟨by omega, by omega, fun e => by have := h.at' e; omega, h.end', fun e k => by have h4 := h.fin e k; have := h.at' e; have := h.end' e; omega, fun e k => by have h4 := h.go e k; have := h.at' e; have := h.end' e; omega⟩

/-- a text's tokens from a place on, each with the place behind it and the error -/
def its : Nat → List UInt8 → Nat → List (Tk.Tok × Nat × Int)
  | 0, _, _ => []
  | n + 1, l, a => Tk.next l a :: if (Tk.next l a).2.2 ≠ 0 ∨ (Tk.next l a).1.kind = 0 then [] else its n l (Tk.next l a).2.1
def iall (l : List UInt8) : List (Tk.Tok × Nat × Int) := its (l.length + 1) l 0
def good (T : List (Tk.Tok × Nat × Int)) : List Tk.Tok := (T.filter (fun x => x.2.2 == 0)).map (·.1)
def iend (T : List (Tk.Tok × Nat × Int)) : Nat := (T.getLast?.map (·.2.1)).getD 0
def ierr (T : List (Tk.Tok × Nat × Int)) : Int := (T.getLast?.map (·.2.2)).getD 0
/-- all tokens: the good ones, where it ends, the error -/
def toks (l : List UInt8) : List Tk.Tok × Nat × Int := (good (iall l), iend (iall l), ierr (iall l))

theorem its_succ (n : Nat) (l : List UInt8) (a : Nat) : its (n + 1) l a = Tk.next l a :: if (Tk.next l a).2.2 ≠ 0 ∨ (Tk.next l a).1.kind = 0 then [] else its n l (Tk.next l a).2.1 := rfl
theorem good_snoc (T : List (Tk.Tok × Nat × Int)) (x : Tk.Tok × Nat × Int) : good (T ++ [x]) = if x.2.2 = 0 then good T ++ [x.1] else good T := by
  unfold good
  by_cases h : x.2.2 = 0
  · rw [if_pos h]; simp [h]
  · rw [if_neg h]; simp [h]
theorem iend_snoc (T : List (Tk.Tok × Nat × Int)) (x : Tk.Tok × Nat × Int) : iend (T ++ [x]) = x.2.1 := by unfold iend; simp
theorem ierr_snoc (T : List (Tk.Tok × Nat × Int)) (x : Tk.Tok × Nat × Int) : ierr (T ++ [x]) = x.2.2 := by unfold ierr; simp
theorem good_len (T : List (Tk.Tok × Nat × Int)) : (good T).length ≤ T.length := by unfold good; simp; exact List.length_filter_le _ _
/-- how many there are -/
theorem its_len : ∀ (n : Nat) (l : List UInt8) (a : Nat), a ≤ l.length → (its n l a).length ≤ l.length - a + 1
  | 0, _, _, _ => by simp [its]
  | n + 1, l, a, ha => by
    have hk := next_ok l a ha
    rw [its_succ]
    split
    · simp
    · rename_i h
      have h1 := hk.go (by omega) (by omega)
      have ih := its_len n l _ hk.hi
      have h2 := hk.hi
      rw [List.length_cons]; omega

end Go.Proofs.Ythbpkmmnoeikoaa
