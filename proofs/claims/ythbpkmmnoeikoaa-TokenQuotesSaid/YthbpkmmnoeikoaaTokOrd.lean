/-
  A text's tokens stand in order. No program text.
-/
import Derived.Test.YthbpkmmnoeikoaaTokItems
namespace Go.Proofs.Ythbpkmmnoeikoaa
set_option linter.unusedVariables false
set_option linter.unusedSimpArgs false

/-- where the token ahead of the k-th ends -/
def pe (a : Nat) (ts : List Tk.Tok) : Nat → Nat
  | 0 => a
  | k + 1 => (ts.getD k Tk.zero).end'

structure OrdAt (L a : Nat) (ts : List Tk.Tok) (k : Nat) (t : Tk.Tok) : Prop where
  lo : pe a ts k ≤ t.at'
  le : t.at' ≤ t.end'
  hi : t.end' ≤ L
  iff : t.kind = 0 ↔ t.end' = t.at'
  last : t.kind = 0 → k + 1 = ts.length

structure Ord (L a : Nat) (T : List (Tk.Tok × Nat × Int)) : Prop where
  ne : T ≠ []
  all : ∀ k (hk : k < (good T).length), OrdAt L a (good T) k (good T)[k]
  lo : pe a (good T) (good T).length ≤ iend T
  hi : iend T ≤ L
  fin : ierr T = 0 → 0 < (good T).length ∧ (∀ t, (good T)[(good T).length - 1]? = some t → t.kind = 0) ∧ iend T = L

theorem good_cons (x : Tk.Tok × Nat × Int) (T : List (Tk.Tok × Nat × Int)) : good (x :: T) = if x.2.2 = 0 then x.1 :: good T else good T := by
  unfold good
  by_cases h : x.2.2 = 0
  · rw [if_pos h]; simp [h]
  · rw [if_neg h]; simp [h]
theorem iend_cons (x : Tk.Tok × Nat × Int) {T : List (Tk.Tok × Nat × Int)} (h : T ≠ []) : iend (x :: T) = iend T := by
  unfold iend
  cases T with
  | nil => exact absurd rfl h
  | cons y T => simp [List.getLast?_cons]
theorem ierr_cons (x : Tk.Tok × Nat × Int) {T : List (Tk.Tok × Nat × Int)} (h : T ≠ []) : ierr (x :: T) = ierr T := by
  unfold ierr
  cases T with
  | nil => exact absurd rfl h
  | cons y T => simp [List.getLast?_cons]
theorem pe_cons (a : Nat) (t : Tk.Tok) (ts : List Tk.Tok) : ∀ k, pe a (t :: ts) (k + 1) = pe t.end' ts k
  | 0 => rfl
  | k + 1 => rfl

theorem its_ord : ∀ (n : Nat) (l : List UInt8) (a : Nat), a ≤ l.length → l.length - a < n → Ord l.length a (its n l a)
  | 0, _, _, _, h => by omega
  | n + 1, l, a, ha, hn => by
    have hk := next_ok l a ha
    have hlo := hk.lo
    have hhi := hk.hi
    rw [its_succ]
    generalize Tk.next l a = x at *
    by_cases h1 : x.2.2 = 0
    · have hat := hk.at' h1
      have hend := hk.end' h1
      by_cases h2 : x.1.kind = 0
      · rw [if_pos (.inr h2)]
        obtain ⟨f1, f2⟩ := hk.fin h1 h2
        have hg : good [x] = [x.1] := by rw [good_cons, if_pos h1]; rfl
        refine ⟨by simp, ?_, ?_, ?_, ?_⟩
        · rw [hg]
          intro k hk2
          obtain rfl : k = 0 := by simp at hk2; exact hk2
          have hle : x.1.at' ≤ x.1.end' := by omega
          have hle2 : x.1.end' ≤ l.length := by omega
          exact ⟨hat, hle, hle2, ⟨fun _ => f2.symm, fun _ => h2⟩, fun _ => rfl⟩
        · rw [hg]; show x.1.end' ≤ x.2.1; omega
        · show x.2.1 ≤ _; omega
        · intro _
          rw [hg]
          refine ⟨by simp, ?_, by show x.2.1 = _; omega⟩
          intro t ht
          obtain rfl : x.1 = t := by simpa using ht
          exact h2
      · rw [if_neg (by rintro (h | h); exact h h1; exact h2 h)]
        obtain ⟨g1, g2⟩ := hk.go h1 h2
        have ih := its_ord n l x.2.1 hhi (by omega)
        have hg : good (x :: its n l x.2.1) = x.1 :: good (its n l x.2.1) := by rw [good_cons, if_pos h1]
        refine ⟨by simp, ?_, ?_, ?_, ?_⟩
        · rw [hg]
          intro k hk2
          cases k with
          | zero =>
            have hle : x.1.at' ≤ x.1.end' := by omega
            have hle2 : x.1.end' ≤ l.length := by omega
            refine ⟨hat, hle, hle2, ⟨fun e => absurd e h2, fun e => ?_⟩, fun e => absurd e h2⟩
            have e' : x.1.end' = x.1.at' := e
            omega
          | succ k =>
            have hk3 : k < (good (its n l x.2.1)).length := by simpa using hk2
            have h := ih.all k hk3
            refine ⟨?_, h.le, h.hi, h.iff, fun e => ?_⟩
            · rw [pe_cons, hend]; exact h.lo
            · have := h.last e
              simp; omega
        · rw [hg, iend_cons _ ih.ne, List.length_cons, pe_cons, hend]; exact ih.lo
        · rw [iend_cons _ ih.ne]; exact ih.hi
        · rw [ierr_cons _ ih.ne, iend_cons _ ih.ne, hg]
          intro e
          obtain ⟨i1, i2, i3⟩ := ih.fin e
          refine ⟨by simp, ?_, i3⟩
          intro t ht
          refine i2 t ?_
          rw [List.length_cons, Nat.add_sub_cancel] at ht
          obtain ⟨m, hm⟩ : ∃ m, (good (its n l x.2.1)).length = m + 1 := ⟨_, (Nat.sub_add_cancel i1).symm⟩
          rw [hm] at ht ⊢
          simpa using ht
    · rw [if_pos (.inl h1)]
      have hg : good [x] = [] := by rw [good_cons, if_neg h1]; rfl
      refine ⟨by simp, ?_, ?_, ?_, ?_⟩
      · rw [hg]; intro k hk2; simp at hk2
      · rw [hg]; show a ≤ x.2.1; omega
      · show x.2.1 ≤ _; omega
      · intro e; exact absurd e h1

end Go.Proofs.Ythbpkmmnoeikoaa
