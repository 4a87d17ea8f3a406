/-
  What is quoted is read back. No program text.
-/
import Derived.Test.YthbpkmmnoeikoaaTokQuote
import Derived.Test.YthbpkmmnoeikoaaTokShift
namespace Go.Proofs.Ythbpkmmnoeikoaa
set_option linter.unusedVariables false
set_option linter.unusedSimpArgs false

/-- codes up to the end -/
def vd : Nat → List UInt8 → Bool
  | 0, _ => false
  | _ + 1, [] => true
  | n + 1, b :: r => match Uf.get (b :: r) with | none => false | some p => vd n ((b :: r).drop p.2)
def cendI (i : Nat) (T : List (Nat × Nat)) : Nat := (T.getLast?.map (·.1)).getD i
theorem cendI_cons (i : Nat) (x : Nat × Nat) (T : List (Nat × Nat)) : cendI i (x :: T) = cendI x.1 T := by
  unfold cendI
  cases T with
  | nil => simp
  | cons y T => simp [List.getLast?_cons]
theorem vd_of : ∀ (n : Nat) (l : List UInt8) (i : Nat), l.length < n → cendI i (cods n l i) = i + l.length → vd n l = true
  | 0, _, _, h, _ => by omega
  | n + 1, [], _, _, _ => rfl
  | n + 1, b :: r, i, h, hc => by
    rw [vd]
    cases hg : Uf.get (b :: r) with
    | none =>
      rw [cods_none n i hg] at hc
      simp [cendI] at hc
    | some p =>
      rw [cods_some n i hg, cendI_cons] at hc
      obtain ⟨h1, h2, h3, h4⟩ := get_len hg
      refine vd_of n _ (i + p.2) (by rw [List.length_drop]; omega) ?_
      rw [List.length_drop]
      have : i + p.2 + ((b :: r).length - p.2) = i + (b :: r).length := by omega
      rw [this]; exact hc
theorem vd_valid {l : List UInt8} (h : valid l = true) : vd (l.length + 1) l = true := by
  refine vd_of (l.length + 1) l 0 (by omega) ?_
  have := of_decide_eq_true h
  unfold cend at this
  unfold cendI
  omega

theorem get_parts {b : UInt8} {r : List UInt8} {p : Nat × Nat} (h : Uf.get (b :: r) = some p) :
    p.2 = (Uf.first b).1 ∧ p.2 ≠ 0 ∧ p.2 ≤ r.length + 1 ∧ (r.take (p.2 - 1)).all Uf.tl = true := by
  unfold Uf.get at h
  dsimp only at h
  split at h
  · cases h
  · rename_i h1
    split at h
    · rename_i h2
      cases h
      exact ⟨rfl, by dsimp only; omega, by dsimp only; omega, h2.1⟩
    · cases h
theorem get_more {b : UInt8} {r : List UInt8} {p : Nat × Nat} (h : Uf.get (b :: r) = some p) (X : List UInt8) : Uf.get (b :: (r.take (p.2 - 1) ++ X)) = some p := by
  obtain ⟨h1, h2, h3, h4⟩ := get_parts h
  have hl : (r.take (p.2 - 1)).length = p.2 - 1 := by rw [List.length_take]; omega
  have ht : (r.take (p.2 - 1) ++ X).take (p.2 - 1) = r.take (p.2 - 1) := by rw [List.take_append_of_le_length (by omega), List.take_of_length_le (by omega)]
  unfold Uf.get at h ⊢
  dsimp only at h ⊢
  rw [← h1] at h ⊢
  rw [ht]
  rw [if_neg (by omega)] at h
  rw [if_neg (by rw [List.length_append]; omega)]
  exact h
theorem qb_tl {x : UInt8} (h : Uf.tl x = true) : Tk.qb x = [x] := by
  have h1 := of_decide_eq_true h
  unfold Tk.qb
  have h34 : ¬ (x = 34 ∨ x = 92) := by
    rintro (e | e) <;> rw [e] at h1 <;> exact absurd h1 (by decide)
  rw [if_neg h34, if_neg (by omega)]
theorem qbs_tl : ∀ l : List UInt8, l.all Uf.tl = true → Tk.qbs l = l
  | [], _ => rfl
  | x :: l, h => by
    rw [List.all_cons, Bool.and_eq_true] at h
    have : Tk.qbs (x :: l) = Tk.qb x ++ Tk.qbs l := by simp [Tk.qbs]
    rw [this, qb_tl h.1, qbs_tl l h.2]; rfl
theorem qbs_app (a b : List UInt8) : Tk.qbs (a ++ b) = Tk.qbs a ++ Tk.qbs b := by simp [Tk.qbs]

theorem hex_hx : ∀ n : Nat, n < 16 → Tk.hex (Tk.hx n) = some n := by decide
theorem esc_low (c : UInt8) (h : c.toNat < 32) (X : List UInt8) : Tk.esc (92 :: 117 :: 48 :: 48 :: Tk.hx (c.toNat / 16) :: Tk.hx (c.toNat % 16) :: X) = some ([c], 6) := by
  have h1 := hex_hx (c.toNat / 16) (by omega)
  have h2 := hex_hx (c.toNat % 16) (by omega)
  have hu : Tk.unit (92 :: 117 :: 48 :: 48 :: Tk.hx (c.toNat / 16) :: Tk.hx (c.toNat % 16) :: X) = some c.toNat := by
    unfold Tk.unit
    rw [if_pos ⟨rfl, rfl⟩]
    show Tk.hexs 4 (48 :: 48 :: Tk.hx (c.toNat / 16) :: Tk.hx (c.toNat % 16) :: X) 0 = _
    have h48 : Tk.hex 48 = some 0 := by decide
    simp only [Tk.hexs, h48, h1, h2]
    congr 1
    omega
  have hc : Uf.code c.toNat = true := decide_eq_true (by omega)
  have hp : Uf.put c.toNat = [c] := (Uf.put1 _ _).2 ⟨by omega, rfl⟩
  show Tk.uesc _ = _
  unfold Tk.uesc
  rw [hu]
  dsimp only
  rw [hc, if_pos rfl, hp]

theorem txt_qbs : ∀ (n : Nat) (l a r : List UInt8) (f : Nat), vd n l = true → (Tk.qbs l).length < f → Tk.txt f (Tk.qbs l ++ 34 :: r) a = (a ++ l, (Tk.qbs l).length + 1, true)
  | 0, _, _, _, _, h, _ => by cases h
  | n + 1, [], a, r, f, _, hf => by
    obtain ⟨g, rfl⟩ : ∃ g, f = g + 1 := ⟨f - 1, by omega⟩
    show Tk.txt (g + 1) (34 :: r) a = _
    rw [Tk.txt, if_pos rfl, List.append_nil]; rfl
  | n + 1, c :: l, a, r, f, h, hf => by
    obtain ⟨g, rfl⟩ : ∃ g, f = g + 1 := ⟨f - 1, by omega⟩
    rw [vd] at h
    cases hg : Uf.get (c :: l) with
    | none => rw [hg] at h; cases h
    | some p =>
      rw [hg] at h
      dsimp only at h
      obtain ⟨e1, e2, e3, e4⟩ := get_parts hg
      have hq1 : Tk.qbs (c :: l) = Tk.qb c ++ Tk.qbs l := by simp [Tk.qbs]
      by_cases hs : c = 34 ∨ c = 92
      · have hp : p.2 = 1 := by rw [e1]; rcases hs with rfl | rfl <;> decide
        rw [hp] at h
        have hqb : Tk.qb c = [92, c] := by unfold Tk.qb; rw [if_pos hs]
        have hsi : Tk.simple c = some c := by unfold Tk.simple; rw [if_pos (by rcases hs with e | e; exact .inl e; exact .inr (.inl e))]
        rw [hq1, hqb] at hf ⊢
        have ih := txt_qbs n l (a ++ [c]) r g h (by simp at hf; omega)
        show Tk.txt (g + 1) (92 :: c :: (Tk.qbs l ++ 34 :: r)) a = _
        have he : Tk.esc (92 :: c :: (Tk.qbs l ++ 34 :: r)) = some ([c], 2) := by
          unfold Tk.esc
          dsimp only [List.tail_cons]
          rw [hsi]
        rw [Tk.txt, if_neg (by decide), if_pos rfl, he]
        dsimp only
        show Tk.sh 2 (Tk.txt g (Tk.qbs l ++ 34 :: r) (a ++ [c])) = _
        rw [ih]
        simp [Tk.sh]
      · by_cases h32 : c.toNat < 32
        · have hp : p.2 = 1 := by rw [e1]; unfold Uf.first; rw [if_pos (by omega)]
          rw [hp] at h
          have hqb : Tk.qb c = [92, 117, 48, 48, Tk.hx (c.toNat / 16), Tk.hx (c.toNat % 16)] := by unfold Tk.qb; rw [if_neg hs, if_pos h32]
          rw [hq1, hqb] at hf ⊢
          have ih := txt_qbs n l (a ++ [c]) r g h (by simp at hf; omega)
          show Tk.txt (g + 1) (92 :: 117 :: 48 :: 48 :: Tk.hx (c.toNat / 16) :: Tk.hx (c.toNat % 16) :: (Tk.qbs l ++ 34 :: r)) a = _
          rw [Tk.txt, if_neg (by decide), if_pos rfl, esc_low c h32]
          dsimp only
          show Tk.sh 6 (Tk.txt g (Tk.qbs l ++ 34 :: r) (a ++ [c])) = _
          rw [ih]
          simp [Tk.sh]
        · have hqb : Tk.qb c = [c] := by unfold Tk.qb; rw [if_neg hs, if_neg h32]
          have hsp : l = l.take (p.2 - 1) ++ l.drop (p.2 - 1) := (List.take_append_drop _ _).symm
          have hql : Tk.qbs l = l.take (p.2 - 1) ++ Tk.qbs (l.drop (p.2 - 1)) := by
            conv => lhs; rw [hsp]
            rw [qbs_app, qbs_tl _ e4]
          have hdp : (c :: l).drop p.2 = l.drop (p.2 - 1) := by
            obtain ⟨m, hm⟩ : ∃ m, p.2 = m + 1 := ⟨p.2 - 1, by omega⟩
            rw [hm]; rfl
          rw [hdp] at h
          have hlt : (l.take (p.2 - 1)).length = p.2 - 1 := by rw [List.length_take]; omega
          rw [hq1, hqb, hql] at hf ⊢
          have ih := txt_qbs n (l.drop (p.2 - 1)) (a ++ (c :: l.take (p.2 - 1))) r g h (by simp at hf; omega)
          have hgm := get_more hg (Tk.qbs (l.drop (p.2 - 1)) ++ 34 :: r)
          have hL : [c] ++ (l.take (p.2 - 1) ++ Tk.qbs (l.drop (p.2 - 1))) ++ 34 :: r = c :: (l.take (p.2 - 1) ++ (Tk.qbs (l.drop (p.2 - 1)) ++ 34 :: r)) := by simp
          rw [hL, Tk.txt, if_neg (fun e => hs (.inl e)), if_neg (fun e => hs (.inr e)), hgm]
          dsimp only
          rw [if_neg h32]
          have hd2 : (c :: (l.take (p.2 - 1) ++ (Tk.qbs (l.drop (p.2 - 1)) ++ 34 :: r))).drop p.2 = Tk.qbs (l.drop (p.2 - 1)) ++ 34 :: r := by
            obtain ⟨m, hm⟩ : ∃ m, p.2 = m + 1 := ⟨p.2 - 1, by omega⟩
            rw [hm] at hlt ⊢
            rw [List.drop_succ_cons, Nat.add_sub_cancel] at *
            rw [List.drop_append_of_le_length (by omega), List.drop_of_length_le (by omega)]; rfl
          have ht2 : (c :: (l.take (p.2 - 1) ++ (Tk.qbs (l.drop (p.2 - 1)) ++ 34 :: r))).take p.2 = c :: l.take (p.2 - 1) := by
            obtain ⟨m, hm⟩ : ∃ m, p.2 = m + 1 := ⟨p.2 - 1, by omega⟩
            rw [hm] at hlt ⊢
            rw [List.take_succ_cons, Nat.add_sub_cancel] at *
            rw [List.take_append_of_le_length (by omega), List.take_of_length_le (by omega)]
          rw [hd2, ht2, ih]
          have h3 : a ++ (c :: l.take (p.2 - 1)) ++ l.drop (p.2 - 1) = a ++ (c :: l) := by
            rw [List.append_assoc, List.cons_append, List.take_append_drop]
          simp only [Tk.sh, h3]
          simp [hlt]
          omega

theorem next_quote (l h : List UInt8) (hv : valid l = true) : Tk.next ((34 :: (Tk.qbs l ++ [34])) ++ h) 0 = (⟨7, 0, (34 :: (Tk.qbs l ++ [34])).length, l, 0⟩, (34 :: (Tk.qbs l ++ [34])).length, 0) := by
  have hL : (34 :: (Tk.qbs l ++ [34])) ++ h = 34 :: (Tk.qbs l ++ 34 :: h) := by simp
  rw [hL]
  unfold Tk.next
  have hsp : Tk.span Tk.blank (34 :: (Tk.qbs l ++ 34 :: h)) = 0 := by rw [Tk.span_cons, if_neg (by decide)]
  rw [List.drop_zero, hsp, Nat.add_zero, List.drop_zero, Tk.tok]
  have hm : Tk.mark 34 = none := by decide
  rw [hm]
  dsimp only
  have hn : (l.length + 1) ≤ (Tk.qbs l ++ 34 :: h).length + 1 ∨ True := .inr trivial
  have ht := txt_qbs (l.length + 1) l [] h ((Tk.qbs l ++ 34 :: h).length + 1) (vd_valid hv) (by rw [List.length_append]; omega)
  rw [if_pos rfl, ht, if_pos rfl]
  have e1 : 0 + 1 + ((Tk.qbs l).length + 1) = (34 :: (Tk.qbs l ++ [34])).length := by simp; omega
  dsimp only
  rw [e1]; rfl
theorem next_end (q h : List UInt8) (hb : ∀ c ∈ h, Tk.blank c = true) : Tk.next (q ++ h) q.length = (⟨0, q.length + h.length, q.length + h.length, [], 0⟩, q.length + h.length, 0) := by
  unfold Tk.next
  have hs : Tk.span Tk.blank h = h.length := by
    have := span_blank [] h hb
    rw [List.append_nil] at this
    rw [this]; rfl
  rw [List.drop_left, hs, ← List.drop_drop, List.drop_left, List.drop_of_length_le (Nat.le_refl _)]
  rfl
theorem its_quote (l h : List UInt8) (hv : valid l = true) (hb : ∀ c ∈ h, Tk.blank c = true) (q : List UInt8) (hq : q = 34 :: (Tk.qbs l ++ [34])) :
    its ((h ++ (q ++ h)).length + 1) (h ++ (q ++ h)) 0 = [(⟨7, h.length, h.length + q.length, l, 0⟩, h.length + q.length, 0), (⟨0, q.length + 2 * h.length, q.length + 2 * h.length, [], 0⟩, q.length + 2 * h.length, 0)] := by
  rw [its_blanks h _ hb]
  obtain ⟨m, hm⟩ : ∃ m, (q ++ h).length = m + 1 := ⟨(q ++ h).length - 1, by rw [hq]; simp⟩
  have h1 := next_quote l h hv
  rw [← hq] at h1
  rw [its_succ, h1]
  dsimp only
  rw [if_neg (by simp), hm, its_succ, next_end q h hb]
  dsimp only
  rw [if_pos (.inr rfl)]
  simp only [List.map_cons, List.map_nil, shi_of, sht]
  have e1 : 0 + h.length = h.length := Nat.zero_add _
  have e2 : q.length + h.length = h.length + q.length := Nat.add_comm _ _
  have e3 : q.length + h.length + h.length = q.length + 2 * h.length := by omega
  rw [e1, e3, e2]

end Go.Proofs.Ythbpkmmnoeikoaa
