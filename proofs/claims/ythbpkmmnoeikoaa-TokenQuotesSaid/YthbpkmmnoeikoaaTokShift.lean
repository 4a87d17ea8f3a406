/-
  Blanks ahead of a text move its tokens, and turn nothing else. No program text.
-/
import Derived.Test.YthbpkmmnoeikoaaTokOrd
namespace Go.Proofs.Ythbpkmmnoeikoaa
set_option linter.unusedVariables false
set_option linter.unusedSimpArgs false

def sht (k : Nat) (t : Tk.Tok) : Tk.Tok := ⟨t.kind, t.at' + k, t.end' + k, t.s, t.n⟩
def shi (k : Nat) (x : Tk.Tok × Nat × Int) : Tk.Tok × Nat × Int := (if x.2.2 = 0 then sht k x.1 else x.1, x.2.1 + k, x.2.2)

theorem shi_of {k : Nat} {t : Tk.Tok} {p : Nat} : shi k (t, p, 0) = (sht k t, p + k, 0) := rfl
theorem shi_err {k : Nat} {t : Tk.Tok} {p : Nat} {e : Int} (h : e ≠ 0) : shi k (t, p, e) = (t, p + k, e) := by unfold shi; rw [if_neg h]
theorem shi_kind (k : Nat) (x : Tk.Tok × Nat × Int) : (shi k x).1.kind = x.1.kind := by
  unfold shi
  by_cases h : x.2.2 = 0
  · rw [if_pos h]; rfl
  · rw [if_neg h]

theorem tok_shift (j k : Nat) (m : List UInt8) : Tk.tok (j + k) m = shi k (Tk.tok j m) := by
  cases m with
  | nil => rfl
  | cons c r =>
    rw [Tk.tok, Tk.tok]
    cases hm : Tk.mark c with
    | some i =>
      dsimp only
      rw [shi_of, sht]
      dsimp only
      rw [show j + k + 1 = j + 1 + k by omega]
    | none =>
      dsimp only
      by_cases h34 : c = 34
      · rw [if_pos h34, if_pos h34]
        cases ht : (Tk.txt (r.length + 1) r []).2.2 with
        | true =>
          rw [if_pos rfl, if_pos rfl, shi_of, sht]
          dsimp only
          rw [show j + k + 1 + (Tk.txt (r.length + 1) r []).2.1 = j + 1 + (Tk.txt (r.length + 1) r []).2.1 + k by omega]
        | false =>
          rw [if_neg (by simp), if_neg (by simp), shi_err (by decide)]
          rw [show j + k + 1 + (Tk.txt (r.length + 1) r []).2.1 = j + 1 + (Tk.txt (r.length + 1) r []).2.1 + k by omega]
      · rw [if_neg h34, if_neg h34]
        by_cases hd : Tk.dig c = true ∨ c = 45
        · rw [if_pos hd, if_pos hd]
          by_cases he : (Tk.number ((c :: r).takeWhile Tk.numc)).2 ≠ 0
          · rw [if_pos he, if_pos he, shi_err he]
          · rw [if_neg he, if_neg he, shi_of, sht]
            dsimp only
            rw [show j + k + Tk.span Tk.numc (c :: r) = j + Tk.span Tk.numc (c :: r) + k by omega]
        · rw [if_neg hd, if_neg hd]
          by_cases hw : Tk.word ((c :: r).takeWhile Tk.let')
          · rw [if_pos hw, if_pos hw, shi_of, sht]
            dsimp only
            rw [show j + k + Tk.span Tk.let' (c :: r) = j + Tk.span Tk.let' (c :: r) + k by omega]
          · rw [if_neg hw, if_neg hw, shi_err (by decide)]

theorem drop_behind (h l : List UInt8) (a : Nat) : (h ++ l).drop (h.length + a) = l.drop a := by
  rw [← List.drop_drop, List.drop_left]
theorem next_shift (h l : List UInt8) (a : Nat) : Tk.next (h ++ l) (h.length + a) = shi h.length (Tk.next l a) := by
  unfold Tk.next
  rw [drop_behind, Nat.add_assoc, drop_behind, Nat.add_comm h.length, tok_shift]
theorem span_blank (l : List UInt8) : ∀ h : List UInt8, (∀ c ∈ h, Tk.blank c = true) → Tk.span Tk.blank (h ++ l) = h.length + Tk.span Tk.blank l
  | [], _ => by simp
  | c :: h, hb => by
    rw [List.cons_append, Tk.span_cons, if_pos (hb c (List.mem_cons_self ..)), span_blank l h (fun d hd => hb d (List.mem_cons_of_mem _ hd)), List.length_cons]
    omega
theorem next_head (h l : List UInt8) (hb : ∀ c ∈ h, Tk.blank c = true) : Tk.next (h ++ l) 0 = shi h.length (Tk.next l 0) := by
  unfold Tk.next
  rw [List.drop_zero, List.drop_zero, span_blank l h hb, Nat.zero_add, Nat.zero_add, drop_behind, Nat.add_comm h.length, tok_shift]

theorem its_shift (h l : List UInt8) : ∀ (n a : Nat), its n (h ++ l) (h.length + a) = (its n l a).map (shi h.length)
  | 0, _ => rfl
  | n + 1, a => by
    rw [its_succ, its_succ, next_shift, shi_kind]
    have e1 : (shi h.length (Tk.next l a)).2.2 = (Tk.next l a).2.2 := rfl
    have e2 : (shi h.length (Tk.next l a)).2.1 = h.length + (Tk.next l a).2.1 := Nat.add_comm _ _
    rw [e1, e2, its_shift h l n]
    by_cases hc : (Tk.next l a).2.2 ≠ 0 ∨ (Tk.next l a).1.kind = 0
    · rw [if_pos hc, if_pos hc]; rfl
    · rw [if_neg hc, if_neg hc]; rfl
theorem its_fuel : ∀ (n m : Nat) (l : List UInt8) (a : Nat), a ≤ l.length → l.length - a < n → l.length - a < m → its n l a = its m l a
  | 0, _, _, _, _, h, _ => by omega
  | _, 0, _, _, _, _, h => by omega
  | n + 1, m + 1, l, a, ha, hn, hm => by
    have hk := next_ok l a ha
    rw [its_succ, its_succ]
    by_cases hc : (Tk.next l a).2.2 ≠ 0 ∨ (Tk.next l a).1.kind = 0
    · rw [if_pos hc, if_pos hc]
    · rw [if_neg hc, if_neg hc]
      have hg := hk.go (by omega) (by omega)
      have hi := hk.hi
      rw [its_fuel n m l _ hi (by omega) (by omega)]

/-- all tokens behind blanks -/
theorem its_blanks (h l : List UInt8) (hb : ∀ c ∈ h, Tk.blank c = true) : its ((h ++ l).length + 1) (h ++ l) 0 = (its (l.length + 1) l 0).map (shi h.length) := by
  have hk := next_ok l 0 (Nat.zero_le _)
  have e0 := its_succ (h ++ l).length (h ++ l) 0
  have e3 := its_succ l.length l 0
  rw [e0, e3, next_head h l hb, shi_kind]
  have e1 : (shi h.length (Tk.next l 0)).2.2 = (Tk.next l 0).2.2 := rfl
  have e2 : (shi h.length (Tk.next l 0)).2.1 = h.length + (Tk.next l 0).2.1 := Nat.add_comm _ _
  rw [e1, e2, its_shift h l]
  by_cases hc : (Tk.next l 0).2.2 ≠ 0 ∨ (Tk.next l 0).1.kind = 0
  · rw [if_pos hc, if_pos hc]; rfl
  · rw [if_neg hc, if_neg hc]
    have hg := hk.go (by omega) (by omega)
    have hi := hk.hi
    rw [its_fuel (h ++ l).length l.length l _ hi (by rw [List.length_append]; omega) (by omega)]
    rfl

theorem good_map (k : Nat) : ∀ T : List (Tk.Tok × Nat × Int), good (T.map (shi k)) = (good T).map (sht k)
  | [] => rfl
  | x :: T => by
    rw [List.map_cons, good_cons, good_cons, good_map k T]
    have e1 : (shi k x).2.2 = x.2.2 := rfl
    rw [e1]
    by_cases h : x.2.2 = 0
    · rw [if_pos h, if_pos h, List.map_cons]
      have : (shi k x).1 = sht k x.1 := by unfold shi; rw [if_pos h]
      rw [this]
    · rw [if_neg h, if_neg h]
theorem iend_map (k : Nat) (T : List (Tk.Tok × Nat × Int)) (h : T ≠ []) : iend (T.map (shi k)) = iend T + k := by
  unfold iend
  rw [List.getLast?_map, List.getLast?_eq_some_getLast h]; rfl
theorem ierr_map (k : Nat) (T : List (Tk.Tok × Nat × Int)) (h : T ≠ []) : ierr (T.map (shi k)) = ierr T := by
  unfold ierr
  rw [List.getLast?_map, List.getLast?_eq_some_getLast h]; rfl
theorem its_ne (n : Nat) (l : List UInt8) (a : Nat) : its (n + 1) l a ≠ [] := by rw [its_succ]; simp

end Go.Proofs.Ythbpkmmnoeikoaa
