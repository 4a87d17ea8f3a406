/-
  Plain facts on rows of fields as texts, by lists of bytes: what is read, piece by piece, and what is printed; no program is named here.
-/
namespace Go.Proofs.Ytnljlbhknbjinaa
namespace Cs

abbrev F := List UInt8
abbrev P := List UInt8 × Nat × Nat
def stop (c : UInt8) : Bool := c == 44 || c == 34 || c == 13 || c == 10
def plain : F → Nat
  | [] => 0
  | c :: l => if stop c then 0 else plain l + 1
def sh (k : Nat) (p : P) : P := (p.1, p.2.1, p.2.2 + k)
/-- what stands behind a field: 0 a comma, 1 the row's end, 2 nothing that may -/
def beh (l f : F) : P :=
  match l with
  | [] => (f, 1, 0)
  | c :: r => if c = 44 then (f, 0, 1) else if c = 13 ∧ r.head? = some 10 then (f, 1, 2) else ([], 2, 0)
def quo : F → F → P
  | [], _ => ([], 2, 0)
  | [c], acc => if c = 34 then sh 1 (beh [] acc) else ([], 2, 1)
  | c :: d :: r, acc => if c ≠ 34 then sh 1 (quo (d :: r) (acc ++ [c])) else if d = 34 then sh 2 (quo r (acc ++ [34])) else sh 1 (beh (d :: r) acc)
def fld (l : F) : P :=
  if l.head? = some 34 then sh 1 (quo l.tail []) else sh (plain l) (beh (l.drop (plain l)) (l.take (plain l)))
/-- all pieces from a place on -/
def pcs : Nat → F → Nat → List P
  | 0, _, _ => []
  | n + 1, l, i =>
    let p := fld l
    (sh i p) :: (if p.2.1 = 2 ∨ (p.2.1 = 1 ∧ p.2.2 = l.length) then [] else pcs n (l.drop p.2.2) (i + p.2.2))
/-- rows, as pieces come -/
def bstep (o : List (List F) × Bool) (p : P) : List (List F) × Bool :=
  (if o.2 then o.1 ++ [[p.1]] else o.1.dropLast ++ [(o.1.getLast?.getD []) ++ [p.1]], p.2.1 == 1)
def bld (l : List P) : List (List F) × Bool := l.foldl bstep ([], true)
/-- a text read: rows ahead, the row begun -/
def prs : Nat → F → Nat → List (List F) → List F → List (List F) × Nat × Nat
  | 0, _, _, _, _ => ([], 0, 0)
  | n + 1, l, i, out, row =>
    let p := fld l
    if p.2.1 = 2 then ([], i + p.2.2, 2)
    else if p.2.1 = 1 then
      (if p.2.2 = l.length then (out ++ [row ++ [p.1]], i + p.2.2, 0) else prs n (l.drop p.2.2) (i + p.2.2) (out ++ [row ++ [p.1]]) [])
    else prs n (l.drop p.2.2) (i + p.2.2) out (row ++ [p.1])
def parse (l : F) : List (List F) × Nat × Nat := if l = [] then ([], 0, 0) else prs (l.length + 1) l 0 [] []

/-! ### printed -/
def dbl : F → F
  | [] => []
  | c :: l => if c = 34 then 34 :: 34 :: dbl l else c :: dbl l
def field (s : F) : F := if s ≠ [] ∧ s.any stop = false then s else 34 :: (dbl s ++ [34])
def fields : List F → F
  | [] => []
  | [s] => field s
  | s :: r => field s ++ 44 :: fields r
def rowT (r : List F) : F := fields r ++ [13, 10]
def rowsT (l : List (List F)) : F := (l.map rowT).flatten
def bad (l : List (List F)) : Bool := l.any (fun r => r.isEmpty)
def print (l : List (List F)) : F × Nat := if bad l then ([], 1) else (rowsT l, 0)

/-! ### lengths -/
theorem beh_len (l f : F) : (beh l f).2.2 ≤ l.length ∧ ((beh l f).2.1 = 0 → 1 ≤ (beh l f).2.2) ∧ ((beh l f).2.1 = 1 → (beh l f).2.2 = l.length ∨ 1 ≤ (beh l f).2.2) ∧ (beh l f).2.1 ≤ 2 := by
  unfold beh
  cases l with
  | nil => simp
  | cons c r =>
    simp only
    split
    · simp
    · split
      · rename_i h
        cases r with
        | nil => simp at h
        | cons d r => simp
      · simp
theorem quo_len : ∀ (l acc : F), (quo l acc).2.2 ≤ l.length ∧ ((quo l acc).2.1 = 0 → 1 ≤ (quo l acc).2.2) ∧ ((quo l acc).2.1 = 1 → 1 ≤ (quo l acc).2.2) ∧ (quo l acc).2.1 ≤ 2
  | [], _ => by simp [quo]
  | [c], acc => by
    unfold quo
    split
    · simp [sh, beh]
    · simp
  | c :: d :: r, acc => by
    have h1 := quo_len (d :: r) (acc ++ [c])
    have h2 := quo_len r (acc ++ [34])
    have h3 := beh_len (d :: r) acc
    unfold quo
    simp only [List.length_cons] at h1 h3 ⊢
    split
    · simp only [sh]; refine ⟨by omega, fun _ => by omega, fun _ => by omega, by omega⟩
    · split
      · simp only [sh]; refine ⟨by omega, fun _ => by omega, fun _ => by omega, by omega⟩
      · simp only [sh]; refine ⟨by omega, fun _ => by omega, fun _ => by omega, by omega⟩
theorem plain_len : ∀ l : F, plain l ≤ l.length
  | [] => Nat.le_refl _
  | c :: l => by have := plain_len l; unfold plain; split <;> simp <;> omega
theorem fld_len (l : F) : (fld l).2.2 ≤ l.length ∧ ((fld l).2.1 = 0 → 1 ≤ (fld l).2.2) ∧ ((fld l).2.1 = 1 → (fld l).2.2 = l.length ∨ 1 ≤ (fld l).2.2) ∧ (fld l).2.1 ≤ 2 := by
  unfold fld
  split
  · rename_i h
    cases l with
    | nil => simp at h
    | cons c r =>
      have := quo_len r []
      simp only [sh, List.tail_cons, List.length_cons]
      refine ⟨by omega, fun _ => by omega, fun _ => by omega, by omega⟩
  · have h1 := plain_len l
    have h2 := beh_len (l.drop (plain l)) (l.take (plain l))
    rw [List.length_drop] at h2
    simp only [sh]
    refine ⟨by omega, fun h => by omega, fun h => ?_, by omega⟩
    rcases h2.2.2.1 h with h3 | h3
    · left; omega
    · right; omega

theorem prs_fuel : ∀ (n m : Nat) (l : F) (i : Nat) (out : List (List F)) (row : List F), l.length < n → l.length < m → prs n l i out row = prs m l i out row
  | 0, _, _, _, _, _, h, _ => absurd h (by omega)
  | _, 0, _, _, _, _, _, h => absurd h (by omega)
  | n + 1, m + 1, l, i, out, row, hn, hm => by
    obtain ⟨h1, h2, h3, h4⟩ := fld_len l
    have ih : ∀ o r, 1 ≤ (fld l).2.2 → prs n (l.drop (fld l).2.2) (i + (fld l).2.2) o r = prs m (l.drop (fld l).2.2) (i + (fld l).2.2) o r := fun o r hk =>
      prs_fuel n m _ _ o r (by rw [List.length_drop]; omega) (by rw [List.length_drop]; omega)
    unfold prs
    simp only
    split
    · rfl
    · split
      · rename_i h
        split
        · rfl
        · rename_i hne
          exact ih _ _ ((h3 h).resolve_left hne)
      · exact ih _ _ (h2 (by omega))

/-! ### what is printed, read -/
theorem plain_app (s r : F) (hs : s.any stop = false) (hr : r = [] ∨ ∃ c, r.head? = some c ∧ stop c = true) : plain (s ++ r) = s.length := by
  induction s with
  | nil =>
    cases r with
    | nil => rfl
    | cons c r =>
      rcases hr with h | ⟨d, h, h'⟩
      · simp at h
      · simp at h; subst h; simp [plain, h']
  | cons c s ih =>
    simp only [List.any_cons, Bool.or_eq_false_iff] at hs
    simp only [List.cons_append, plain, hs.1, Bool.false_eq_true, if_false, List.length_cons, ih hs.2]
theorem quo_dbl : ∀ (s acc r : F), r.head? ≠ some 34 → quo (dbl s ++ 34 :: r) acc = sh ((dbl s).length + 1) (beh r (acc ++ s))
  | [], acc, r, h => by
    cases r with
    | nil => simp [dbl, quo]
    | cons d r =>
      have hd : d ≠ 34 := fun e => h (by rw [e]; rfl)
      simp [dbl, quo, hd]
  | c :: s, acc, r, h => by
    by_cases hc : c = 34
    · subst hc
      have ih := quo_dbl s (acc ++ [34]) r h
      have hd : dbl (34 :: s) = 34 :: 34 :: dbl s := by simp [dbl]
      rw [hd]
      simp only [List.cons_append]
      rw [quo]
      simp only [ne_eq, not_true, if_false, if_true, ih, sh, List.length_cons, List.append_assoc, List.singleton_append]
      simp; omega
    · have ih := quo_dbl s (acc ++ [c]) r h
      have hd : dbl (c :: s) = c :: dbl s := by simp [dbl, hc]
      rw [hd]
      simp only [List.cons_append]
      have hne : ∃ d t, dbl s ++ 34 :: r = d :: t := by
        cases hx : dbl s ++ 34 :: r with
        | nil => simp at hx
        | cons d t => exact ⟨d, t, rfl⟩
      obtain ⟨d, t, hdt⟩ := hne
      rw [hdt] at ih ⊢
      rw [quo]
      simp only [ne_eq, hc, not_false_iff, if_true, ih, sh, List.length_cons, List.append_assoc, List.singleton_append]
      simp; omega
/-- behind a field: nothing, a comma, or a row's end -/
def Ends (r : F) : Prop := r = [] ∨ (∃ t, r = 44 :: t) ∨ ∃ t, r = 13 :: 10 :: t
theorem Ends.head {r : F} (h : Ends r) : r = [] ∨ ∃ c, r.head? = some c ∧ stop c = true := by
  rcases h with h | ⟨t, h⟩ | ⟨t, h⟩
  · exact .inl h
  · exact .inr ⟨44, by rw [h]; rfl, rfl⟩
  · exact .inr ⟨13, by rw [h]; rfl, rfl⟩
theorem Ends.ne {r : F} (h : Ends r) : r.head? ≠ some 34 := by
  rcases h with h | ⟨t, h⟩ | ⟨t, h⟩ <;> subst h <;> simp
theorem fld_field (s r : F) (h : Ends r) : fld (field s ++ r) = sh (field s).length (beh r s) := by
  unfold field
  split
  · rename_i hs
    obtain ⟨hn, hp⟩ := hs
    have hpl := plain_app s r hp h.head
    unfold fld
    have hh : (s ++ r).head? ≠ some 34 := by
      cases s with
      | nil => exact absurd rfl hn
      | cons c s =>
        simp only [List.any_cons, Bool.or_eq_false_iff] at hp
        simp only [List.cons_append, List.head?_cons, ne_eq, Option.some.injEq]
        intro e; subst e; simp [stop] at hp
    rw [if_neg hh, hpl]
    simp
  · unfold fld
    rw [if_pos (by simp)]
    have e : (34 :: (dbl s ++ [34]) ++ r).tail = dbl s ++ 34 :: r := by simp
    rw [e, quo_dbl s [] r h.ne]
    simp [sh]; omega
theorem field_pos (s : F) : 0 < (field s).length := by
  unfold field
  split
  · rename_i h
    exact List.length_pos_iff.2 h.1
  · simp
theorem ends_crlf (t : F) : Ends (13 :: 10 :: t) := .inr (.inr ⟨t, rfl⟩)
theorem ends_comma (t : F) : Ends (44 :: t) := .inr (.inl ⟨t, rfl⟩)

theorem prs_comma {l f : F} {k : Nat} (h : fld l = (f, 0, k)) (n i : Nat) (out : List (List F)) (row : List F) : prs (n + 1) l i out row = prs n (l.drop k) (i + k) out (row ++ [f]) := by
  simp [prs, h]
theorem prs_last {l f : F} {k : Nat} (h : fld l = (f, 1, k)) (hk : k = l.length) (n i : Nat) (out : List (List F)) (row : List F) : prs (n + 1) l i out row = (out ++ [row ++ [f]], i + k, 0) := by
  simp [prs, h, hk]
theorem prs_end {l f : F} {k : Nat} (h : fld l = (f, 1, k)) (hk : k ≠ l.length) (n i : Nat) (out : List (List F)) (row : List F) : prs (n + 1) l i out row = prs n (l.drop k) (i + k) (out ++ [row ++ [f]]) [] := by
  simp [prs, h, hk]

/-- a printed row is read, whatever stands behind it -/
theorem prs_row : ∀ (r : List F), r ≠ [] → ∀ (s : F) (n i : Nat) (out : List (List F)) (row : List F), (rowT r ++ s).length < n →
    prs n (rowT r ++ s) i out row = if s = [] then (out ++ [row ++ r], i + (rowT r).length, 0) else prs (s.length + 1) s (i + (rowT r).length) (out ++ [row ++ r]) []
  | [], h, _, _, _, _, _, _ => absurd rfl h
  | [f], _, s, 0, _, _, _, hn => absurd hn (by omega)
  | [f], _, s, n + 1, i, out, row, hn => by
    have hr : rowT [f] = field f ++ [13, 10] := rfl
    have hf := fld_field f (13 :: 10 :: s) (ends_crlf s)
    have e : rowT [f] ++ s = field f ++ 13 :: 10 :: s := by rw [hr]; simp
    have hb : beh (13 :: 10 :: s) f = (f, 1, 2) := by simp [beh]
    have hf2 : fld (field f ++ 13 :: 10 :: s) = (f, 1, (field f).length + 2) := by rw [hf, hb]; simp [sh, Nat.add_comm]
    have hlr : (rowT [f]).length = (field f).length + 2 := by rw [hr]; simp
    rw [e, hlr]
    by_cases hs : s = []
    · subst hs
      rw [prs_last hf2 (by simp), if_pos rfl]
    · have hls := List.length_pos_iff.2 hs
      rw [prs_end hf2 (by simp; omega), if_neg hs]
      have ed : (field f ++ 13 :: 10 :: s).drop ((field f).length + 2) = s := by
        rw [List.drop_append]; simp
      rw [ed]
      exact prs_fuel _ _ _ _ _ _ (by rw [e] at hn; simp at hn; omega) (by omega)
  | f :: g :: r, _, s, 0, _, _, _, hn => absurd hn (by omega)
  | f :: g :: r, _, s, n + 1, i, out, row, hn => by
    have hr : rowT (f :: g :: r) = field f ++ 44 :: rowT (g :: r) := by simp [rowT, fields]
    have hf := fld_field f (44 :: (rowT (g :: r) ++ s)) (ends_comma _)
    have e : rowT (f :: g :: r) ++ s = field f ++ 44 :: (rowT (g :: r) ++ s) := by rw [hr]; simp
    have hb : beh (44 :: (rowT (g :: r) ++ s)) f = (f, 0, 1) := by simp [beh]
    have hf2 : fld (field f ++ 44 :: (rowT (g :: r) ++ s)) = (f, 0, (field f).length + 1) := by rw [hf, hb]; simp [sh, Nat.add_comm]
    rw [e, prs_comma hf2]
    have ed : (field f ++ 44 :: (rowT (g :: r) ++ s)).drop ((field f).length + 1) = rowT (g :: r) ++ s := by
      rw [List.drop_append]; simp
    rw [ed]
    have hlr : (rowT (f :: g :: r)).length = (field f).length + 1 + (rowT (g :: r)).length := by rw [hr]; simp; omega
    have ih := prs_row (g :: r) (by simp) s n (i + ((field f).length + 1)) out (row ++ [f]) (by rw [e] at hn; simp at hn ⊢; omega)
    rw [ih, hlr]
    have e3 : i + ((field f).length + 1) + (rowT (g :: r)).length = i + ((field f).length + 1 + (rowT (g :: r)).length) := by omega
    rw [e3]
    simp

/-- printed rows are read, whatever stands behind them -/
theorem prs_rows : ∀ (rs : List (List F)), bad rs = false → ∀ (s : F) (n i : Nat) (out : List (List F)), (rowsT rs ++ s).length < n → (rs ≠ [] ∨ s ≠ []) →
    prs n (rowsT rs ++ s) i out [] = if s = [] then (out ++ rs, i + (rowsT rs).length, 0) else prs (s.length + 1) s (i + (rowsT rs).length) (out ++ rs) []
  | [], _, s, n, i, out, hn, hne => by
    have hs : s ≠ [] := hne.resolve_left (by simp)
    simp only [rowsT, List.map_nil, List.flatten_nil, List.nil_append, List.length_nil, Nat.add_zero, List.append_nil, if_neg hs]
    exact prs_fuel _ _ _ _ _ _ (by simpa [rowsT] using hn) (by omega)
  | r :: rs, hb, s, n, i, out, hn, _ => by
    simp only [bad, List.any_cons, Bool.or_eq_false_iff] at hb
    have hr : r ≠ [] := by intro e; subst e; simp at hb
    have e : rowsT (r :: rs) ++ s = rowT r ++ (rowsT rs ++ s) := by simp [rowsT]
    rw [e] at hn ⊢
    have hl : (rowsT (r :: rs)).length = (rowT r).length + (rowsT rs).length := by simp [rowsT]
    rw [prs_row r hr _ n i out [] hn, hl]
    simp only [List.nil_append]
    by_cases hz : rowsT rs ++ s = []
    · rw [if_pos hz]
      have h1 : s = [] := (List.append_eq_nil_iff.1 hz).2
      have h2 : rowsT rs = [] := (List.append_eq_nil_iff.1 hz).1
      have h3 : rs = [] := by
        cases rs with
        | nil => rfl
        | cons q rs =>
          have : rowsT (q :: rs) = rowT q ++ rowsT rs := by simp [rowsT]
          rw [this] at h2
          have := (List.append_eq_nil_iff.1 h2).1
          simp [rowT] at this
      rw [if_pos h1, h3]; simp [rowsT]
    · rw [if_neg hz]
      have hne : rs ≠ [] ∨ s ≠ [] := by
        by_cases h : rs = []
        · right; intro h'; subst h; subst h'; exact hz (by simp [rowsT])
        · exact .inl h
      rw [prs_rows rs hb.2 s _ _ _ (by omega) hne]
      by_cases hs : s = []
      · simp [hs]; omega
      · simp only [if_neg hs, List.append_assoc, List.singleton_append]
        rw [Nat.add_assoc]

/-- rows ahead, and a place ahead, move what is read -/
theorem prs_shift (o : List (List F)) (d : Nat) : ∀ (n : Nat) (l : F) (i : Nat) (out : List (List F)) (row : List F), l.length < n →
    prs n l (d + i) (o ++ out) row = if (prs n l i out row).2.2 = 0 then (o ++ (prs n l i out row).1, d + (prs n l i out row).2.1, 0) else ([], d + (prs n l i out row).2.1, (prs n l i out row).2.2)
  | 0, _, _, _, _, h => absurd h (by omega)
  | n + 1, l, i, out, row, h => by
    obtain ⟨h1, h2, h3, h4⟩ := fld_len l
    have ih : ∀ q r, 1 ≤ (fld l).2.2 → _ := fun q r hk => prs_shift o d n (l.drop (fld l).2.2) (i + (fld l).2.2) q r (by rw [List.length_drop]; omega)
    unfold prs
    simp only
    split
    · simp; omega
    · split
      · rename_i hm
        split
        · simp; omega
        · rename_i hne
          have := ih (out ++ [row ++ [(fld l).1]]) [] ((h3 hm).resolve_left hne)
          rw [← Nat.add_assoc] at this
          rw [← this, List.append_assoc]
      · have := ih out (row ++ [(fld l).1]) (h2 (by omega))
        rw [← Nat.add_assoc] at this
        rw [← this]

theorem prs_ok : ∀ (n : Nat) (l : F) (i : Nat) (out : List (List F)) (row : List F), l.length < n → bad out = false →
    ((prs n l i out row).2.2 = 0 ∨ ((prs n l i out row).2.2 = 2 ∧ (prs n l i out row).1 = [])) ∧ bad (prs n l i out row).1 = false ∧ (prs n l i out row).2.1 ≤ i + l.length ∧ ((prs n l i out row).2.2 = 0 → (prs n l i out row).2.1 = i + l.length)
  | 0, _, _, _, _, h, _ => absurd h (by omega)
  | n + 1, l, i, out, row, h, ho => by
    obtain ⟨h1, h2, h3, h4⟩ := fld_len l
    have ho2 : bad (out ++ [row ++ [(fld l).1]]) = false := by
      unfold bad at ho ⊢; rw [List.any_append, ho]; simp
    have ih : ∀ q r, 1 ≤ (fld l).2.2 → bad q = false → _ := fun q r hk hq => prs_ok n (l.drop (fld l).2.2) (i + (fld l).2.2) q r (by rw [List.length_drop]; omega) hq
    unfold prs
    simp only
    split
    · simp [bad]; omega
    · split
      · rename_i hm
        split
        · rename_i he
          refine ⟨.inl rfl, ho2, by simp; omega, fun _ => by simp [he]⟩
        · rename_i hne
          have := ih (out ++ [row ++ [(fld l).1]]) [] ((h3 hm).resolve_left hne) ho2
          rw [List.length_drop] at this
          refine ⟨this.1, this.2.1, by omega, fun e => by have := this.2.2.2 e; omega⟩
      · have := ih out (row ++ [(fld l).1]) (h2 (by omega)) ho
        rw [List.length_drop] at this
        refine ⟨this.1, this.2.1, by omega, fun e => by have := this.2.2.2 e; omega⟩

/-! ### the statements -/
theorem parse_ok (l : F) : ((parse l).2.2 = 0 ∨ ((parse l).2.2 = 2 ∧ (parse l).1 = [])) ∧ bad (parse l).1 = false ∧ (parse l).2.1 ≤ l.length ∧ ((parse l).2.2 = 0 → (parse l).2.1 = l.length) := by
  unfold parse
  split
  · rename_i h; subst h; simp [bad]
  · have := prs_ok (l.length + 1) l 0 [] [] (by omega) rfl
    simpa using this
/-- what is printed, then a text: both texts' rows -/
theorem parse_join (rs : List (List F)) (s : F) (h : bad rs = false) :
    parse (rowsT rs ++ s) = if (parse s).2.2 = 0 then (rs ++ (parse s).1, (rowsT rs).length + (parse s).2.1, 0) else ([], (rowsT rs).length + (parse s).2.1, (parse s).2.2) := by
  by_cases hr : rs = []
  · subst hr
    have := parse_ok s
    simp only [rowsT, List.map_nil, List.flatten_nil, List.nil_append, List.length_nil, Nat.zero_add]
    rcases this.1 with h0 | ⟨h0, h1⟩
    · rw [if_pos h0]; rw [← h0]
    · rw [if_neg (by omega)]; rw [← h1]
  · have hne : rowsT rs ++ s ≠ [] := by
      cases rs with
      | nil => exact absurd rfl hr
      | cons q rs => simp [rowsT, rowT]
    have hp : parse (rowsT rs ++ s) = prs ((rowsT rs ++ s).length + 1) (rowsT rs ++ s) 0 [] [] := by unfold parse; rw [if_neg hne]
    rw [hp, prs_rows rs h s _ 0 [] (by omega) (.inl hr)]
    by_cases hs : s = []
    · subst hs
      simp [parse]
    · rw [if_neg hs]
      have hps : parse s = prs (s.length + 1) s 0 [] [] := by unfold parse; rw [if_neg hs]
      have := prs_shift rs (rowsT rs).length (s.length + 1) s 0 [] [] (by omega)
      rw [hps, Nat.zero_add, List.nil_append]
      simpa using this
theorem parse_print (rs : List (List F)) (h : bad rs = false) : parse (rowsT rs) = (rs, (rowsT rs).length, 0) := by
  have := parse_join rs [] h
  rw [List.append_nil] at this
  rw [this]; simp [parse]
theorem parse_two (s t : F) : parse (field s ++ 44 :: field t) = ([[s, t]], (field s).length + (field t).length + 1, 0) := by
  have hne : field s ++ 44 :: field t ≠ [] := by simp
  have h1 := fld_field s (44 :: field t) (ends_comma _)
  have h2 := fld_field t [] (.inl rfl)
  rw [List.append_nil] at h2
  have hb1 : beh (44 :: field t) s = (s, 0, 1) := by simp [beh]
  have hb2 : beh [] t = (t, 1, 0) := rfl
  have g1 : fld (field s ++ 44 :: field t) = (s, 0, (field s).length + 1) := by rw [h1, hb1]; simp [sh, Nat.add_comm]
  have g2 : fld (field t) = (t, 1, (field t).length) := by rw [h2, hb2]; simp [sh]
  unfold parse
  rw [if_neg hne, prs_comma g1]
  have ed : (field s ++ 44 :: field t).drop ((field s).length + 1) = field t := by
    rw [List.drop_append]; simp
  have hp : (field s ++ 44 :: field t).length = ((field s).length + (field t).length) + 1 := by simp; omega
  rw [ed, hp, prs_last g2 rfl]
  simp; omega
theorem parse_one (s : F) : parse (field s) = ([[s]], (field s).length, 0) := by
  have hne : field s ≠ [] := List.ne_nil_of_length_pos (field_pos s)
  have h2 := fld_field s [] (.inl rfl)
  rw [List.append_nil] at h2
  have hb2 : beh [] s = (s, 1, 0) := rfl
  have g2 : fld (field s) = (s, 1, (field s).length) := by rw [h2, hb2]; simp [sh]
  unfold parse
  rw [if_neg hne, prs_last g2 rfl]
  simp

/-! ### pieces, as they come, and what is read -/
theorem bld_snoc (l : List P) (p : P) : bld (l ++ [p]) = bstep (bld l) p := by unfold bld; rw [List.foldl_append]; rfl
/-- rows ahead and the row begun, as the rows that have come -/
def Is (o : List (List F) × Bool) (out : List (List F)) (row : List F) : Prop := (o = (out, true) ∧ row = []) ∨ (o = (out ++ [row], false) ∧ row ≠ [])
theorem Is.step {o : List (List F) × Bool} {out : List (List F)} {row : List F} (h : Is o out row) (p : P) :
    bstep o p = (out ++ [row ++ [p.1]], p.2.1 == 1) := by
  unfold bstep
  rcases h with ⟨rfl, rfl⟩ | ⟨rfl, _⟩ <;> simp
/-- the pieces end wrong, or they make the rows -/
theorem prs_pcs : ∀ (n : Nat) (l : F) (i : Nat) (out : List (List F)) (row : List F) (o : List (List F) × Bool), l.length < n → Is o out row →
    (∃ pre p, pcs n l i = pre ++ [p] ∧ p.2.1 = 2 ∧ (∀ q ∈ pre, q.2.1 ≠ 2) ∧ prs n l i out row = ([], p.2.2, 2)) ∨
    ((∀ q ∈ pcs n l i, q.2.1 ≠ 2) ∧ prs n l i out row = (((pcs n l i).foldl bstep o).1, i + l.length, 0))
  | 0, _, _, _, _, _, h, _ => absurd h (by omega)
  | n + 1, l, i, out, row, o, h, ho => by
    obtain ⟨h1, h2, h3, h4⟩ := fld_len l
    have hst := ho.step (sh i (fld l))
    unfold prs pcs
    simp only
    by_cases hm2 : (fld l).2.1 = 2
    · left
      rw [if_pos (.inl hm2), if_pos hm2]
      exact ⟨[], sh i (fld l), rfl, hm2, by simp, by simp [sh]; omega⟩
    · rw [if_neg hm2]
      by_cases hm1 : (fld l).2.1 = 1
      · rw [if_pos hm1]
        by_cases hk : (fld l).2.2 = l.length
        · right
          rw [if_pos (.inr ⟨hm1, hk⟩), if_pos hk]
          refine ⟨by simpa [sh] using hm2, ?_⟩
          simp only [List.foldl_cons, List.foldl_nil]
          rw [hst, hk]; rfl
        · rw [if_neg (by simp [hm2, hk]), if_neg hk]
          have hkk := (h3 hm1).resolve_left hk
          have hIs : Is (bstep o (sh i (fld l))) (out ++ [row ++ [(fld l).1]]) [] := by
            left; rw [hst]; simp [sh, hm1]
          rcases prs_pcs n (l.drop (fld l).2.2) (i + (fld l).2.2) _ _ _ (by rw [List.length_drop]; omega) hIs with ⟨pre, p, e1, e2, e3, e4⟩ | ⟨e1, e2⟩
          · left
            refine ⟨sh i (fld l) :: pre, p, by rw [e1]; rfl, e2, ?_, e4⟩
            intro q hq
            rcases List.mem_cons.1 hq with rfl | hq
            · exact hm2
            · exact e3 q hq
          · right
            refine ⟨?_, ?_⟩
            · intro q hq
              rcases List.mem_cons.1 hq with rfl | hq
              · exact hm2
              · exact e1 q hq
            · rw [e2, List.foldl_cons, List.length_drop]; simp only [Prod.mk.injEq, and_true, true_and]; omega
      · rw [if_neg hm1]
        have hm0 : (fld l).2.1 = 0 := by omega
        rw [if_neg (by simp [hm1, hm2])]
        have hkk := h2 hm0
        have hIs : Is (bstep o (sh i (fld l))) out (row ++ [(fld l).1]) := by
          right; rw [hst]; simp [sh, hm0]
        rcases prs_pcs n (l.drop (fld l).2.2) (i + (fld l).2.2) _ _ _ (by rw [List.length_drop]; omega) hIs with ⟨pre, p, e1, e2, e3, e4⟩ | ⟨e1, e2⟩
        · left
          refine ⟨sh i (fld l) :: pre, p, by rw [e1]; rfl, e2, ?_, e4⟩
          intro q hq
          rcases List.mem_cons.1 hq with rfl | hq
          · exact hm2
          · exact e3 q hq
        · right
          refine ⟨?_, ?_⟩
          · intro q hq
            rcases List.mem_cons.1 hq with rfl | hq
            · exact hm2
            · exact e1 q hq
          · rw [e2, List.foldl_cons, List.length_drop]; simp only [Prod.mk.injEq, and_true, true_and]; omega

/-! ### the reference: byte by byte, by states -/
def rp : Nat → F → Nat → Bool → F → List F → List (List F) → Nat → List (List F) × Nat × Nat
  | 0, _, _, _, _, _, _, _ => ([], 0, 0)
  | _ + 1, [], st, bg, f, row, out, i => if st = 2 then ([], i, 2) else (if bg then out ++ [row ++ [f]] else out, i, 0)
  | n + 1, c :: r, st, bg, f, row, out, i =>
    if st = 2 then (if c = 34 then rp n r 3 bg f row out (i + 1) else rp n r 2 bg (f ++ [c]) row out (i + 1))
    else if c = 34 ∧ st = 0 then rp n r 2 true f row out (i + 1)
    else if c = 34 ∧ st = 3 then rp n r 2 bg (f ++ [34]) row out (i + 1)
    else if c = 44 then rp n r 0 true [] (row ++ [f]) out (i + 1)
    else if c = 13 ∧ r.head? = some 10 then rp n r.tail 0 false [] [] (out ++ [row ++ [f]]) (i + 2)
    else if st = 3 ∨ c = 34 ∨ c = 13 ∨ c = 10 then ([], i, 2)
    else rp n r 1 true (f ++ [c]) row out (i + 1)
theorem rp_fuel : ∀ (n m : Nat) (l : F) (st : Nat) (bg : Bool) (f : F) (row : List F) (out : List (List F)) (i : Nat), l.length < n → l.length < m → rp n l st bg f row out i = rp m l st bg f row out i
  | 0, _, _, _, _, _, _, _, _, h, _ => absurd h (by omega)
  | _, 0, _, _, _, _, _, _, _, _, h => absurd h (by omega)
  | n + 1, m + 1, [], _, _, _, _, _, _, _, _ => rfl
  | n + 1, m + 1, c :: r, st, bg, f, row, out, i, h1, h2 => by
    have ih : ∀ st bg f row out i, rp n r st bg f row out i = rp m r st bg f row out i := fun st bg f row out i =>
      rp_fuel n m r st bg f row out i (by simp at h1; omega) (by simp at h2; omega)
    have iht : ∀ st bg f row out i, rp n r.tail st bg f row out i = rp m r.tail st bg f row out i := fun st bg f row out i =>
      rp_fuel n m r.tail st bg f row out i (by simp at h1 ⊢; omega) (by simp at h2 ⊢; omega)
    unfold rp
    simp only [ih, iht]
def R (l : F) (st : Nat) (bg : Bool) (f : F) (row : List F) (out : List (List F)) (i : Nat) : List (List F) × Nat × Nat := rp (l.length + 1) l st bg f row out i
theorem R_nil (st : Nat) (bg : Bool) (f : F) (row : List F) (out : List (List F)) (i : Nat) : R [] st bg f row out i = if st = 2 then ([], i, 2) else (if bg then out ++ [row ++ [f]] else out, i, 0) := rfl
theorem R_cons (c : UInt8) (r : F) (st : Nat) (bg : Bool) (f : F) (row : List F) (out : List (List F)) (i : Nat) : R (c :: r) st bg f row out i =
    if st = 2 then (if c = 34 then R r 3 bg f row out (i + 1) else R r 2 bg (f ++ [c]) row out (i + 1))
    else if c = 34 ∧ st = 0 then R r 2 true f row out (i + 1)
    else if c = 34 ∧ st = 3 then R r 2 bg (f ++ [34]) row out (i + 1)
    else if c = 44 then R r 0 true [] (row ++ [f]) out (i + 1)
    else if c = 13 ∧ r.head? = some 10 then R r.tail 0 false [] [] (out ++ [row ++ [f]]) (i + 2)
    else if st = 3 ∨ c = 34 ∨ c = 13 ∨ c = 10 then ([], i, 2)
    else R r 1 true (f ++ [c]) row out (i + 1) := by
  have e : ∀ st bg f row out i, rp (r.length + 1) r.tail st bg f row out i = rp (r.tail.length + 1) r.tail st bg f row out i := fun st bg f row out i =>
    rp_fuel _ _ _ _ _ _ _ _ _ (by simp; omega) (by omega)
  unfold R
  rw [List.length_cons, rp]
  simp only [e]
/-- behind a piece -/
def nxt (l : F) (p : P) (row : List F) (out : List (List F)) (i : Nat) : List (List F) × Nat × Nat :=
  if p.2.1 = 2 then ([], i + p.2.2, 2)
  else if p.2.1 = 1 then (if p.2.2 = l.length then (out ++ [row ++ [p.1]], i + p.2.2, 0) else R (l.drop p.2.2) 0 false [] [] (out ++ [row ++ [p.1]]) (i + p.2.2))
  else R (l.drop p.2.2) 0 true [] (row ++ [p.1]) out (i + p.2.2)
theorem nxt_sh (l t : F) (p : P) (k : Nat) (row : List F) (out : List (List F)) (i : Nat) (ht : t.length = k) : nxt (t ++ l) (sh k p) row out i = nxt l p row out (i + k) := by
  subst ht
  unfold nxt sh
  have e1 : i + (p.2.2 + t.length) = i + t.length + p.2.2 := by omega
  have e2 : (p.2.2 + t.length = (t ++ l).length) = (p.2.2 = l.length) := by rw [List.length_append]; apply propext; omega
  have e3 : (t ++ l).drop (p.2.2 + t.length) = l.drop p.2.2 := by rw [List.drop_append]; simp
  simp only [e1, e2, e3]
theorem stop_cases {c : UInt8} (h : stop c = true) : c = 44 ∨ c = 34 ∨ c = 13 ∨ c = 10 := by
  simp only [stop, Bool.or_eq_true, beq_iff_eq] at h
  rcases h with ((h | h) | h) | h
  · exact .inl h
  · exact .inr (.inl h)
  · exact .inr (.inr (.inl h))
  · exact .inr (.inr (.inr h))
theorem R_beh (l : F) (st : Nat) (f : F) (row : List F) (out : List (List F)) (i : Nat)
    (h : (st = 3 ∧ l.head? ≠ some 34) ∨ (st = 1 ∧ (∀ c, l.head? = some c → stop c = true)) ∨ (st = 0 ∧ l.head? ≠ some 34 ∧ (∀ c, l.head? = some c → stop c = true))) :
    R l st true f row out i = nxt l (beh l f) row out i := by
  cases l with
  | nil =>
    rw [R_nil, if_neg (by omega)]
    simp [nxt, beh]
  | cons c r =>
    rw [R_cons, if_neg (by omega)]
    simp only [List.head?_cons, ne_eq, Option.some.injEq, forall_eq'] at h
    have h34 : ¬ (c = 34 ∧ st = 0) := by
      rintro ⟨e1, e2⟩
      rcases h with ⟨a, _⟩ | ⟨a, _⟩ | ⟨_, b, _⟩
      · omega
      · omega
      · exact b e1
    have h343 : ¬ (c = 34 ∧ st = 3) := by
      rintro ⟨e1, e2⟩
      rcases h with ⟨_, b⟩ | ⟨a, _⟩ | ⟨a, _⟩
      · exact b e1
      · omega
      · omega
    rw [if_neg h34, if_neg h343]
    unfold beh
    simp only
    by_cases h44 : c = 44
    · rw [if_pos h44, if_pos h44]; simp [nxt]
    · rw [if_neg h44, if_neg h44]
      by_cases hc : c = 13 ∧ r.head? = some 10
      · rw [if_pos hc, if_pos hc]
        unfold nxt
        obtain ⟨hc1, hc2⟩ := hc
        cases r with
        | nil => simp at hc2
        | cons d r =>
          simp only [List.tail_cons, List.length_cons, List.drop_succ_cons, List.drop_zero]
          rw [if_neg (by omega), if_pos trivial]
          by_cases hr : r = []
          · subst hr; simp [R_nil]
          · have := List.length_pos_iff.2 hr
            rw [if_neg (by omega)]
      · rw [if_neg hc, if_neg hc]
        have hw : st = 3 ∨ c = 34 ∨ c = 13 ∨ c = 10 := by
          rcases h with h | h | h
          · exact .inl h.1
          · rcases stop_cases h.2 with e | e | e | e
            · exact absurd e h44
            · exact .inr (.inl e)
            · exact .inr (.inr (.inl e))
            · exact .inr (.inr (.inr e))
          · rcases stop_cases h.2.2 with e | e | e | e
            · exact absurd e h44
            · exact .inr (.inl e)
            · exact .inr (.inr (.inl e))
            · exact .inr (.inr (.inr e))
        rw [if_pos hw]; simp [nxt]
theorem R_quo : ∀ (l acc : F) (row : List F) (out : List (List F)) (i : Nat), R l 2 true acc row out i = nxt l (quo l acc) row out i
  | [], acc, row, out, i => by simp [R_nil, quo, nxt]
  | [c], acc, row, out, i => by
    rw [R_cons, if_pos rfl]
    unfold quo
    by_cases hc : c = 34
    · rw [if_pos hc, if_pos hc, R_beh [] 3 acc row out (i + 1) (.inl ⟨rfl, by simp⟩)]
      exact (nxt_sh [] [c] _ 1 row out i rfl).symm
    · rw [if_neg hc, if_neg hc, R_nil]; simp [nxt]
  | c :: d :: r, acc, row, out, i => by
    have ih1 := R_quo (d :: r) (acc ++ [c]) row out (i + 1)
    have ih2 := R_quo r (acc ++ [34]) row out (i + 2)
    rw [R_cons, if_pos rfl]
    unfold quo
    by_cases hc : c = 34
    · rw [if_pos hc, if_neg (by simp [hc])]
      by_cases hd : d = 34
      · rw [if_pos hd, R_cons, if_neg (by omega), if_neg (by omega), if_pos ⟨hd, rfl⟩, ih2]
        exact (nxt_sh r [c, d] _ 2 row out i rfl).symm
      · rw [if_neg hd, R_beh (d :: r) 3 acc row out (i + 1) (.inl ⟨rfl, by simpa using hd⟩)]
        exact (nxt_sh (d :: r) [c] _ 1 row out i rfl).symm
    · rw [if_neg hc, if_pos hc, ih1]
      exact (nxt_sh (d :: r) [c] _ 1 row out i rfl).symm
theorem R_plain : ∀ (l : F) (st : Nat) (bg : Bool) (f : F) (row : List F) (out : List (List F)) (i : Nat), (st = 0 ∨ st = 1) → 0 < plain l →
    R l st bg f row out i = R (l.drop (plain l)) 1 true (f ++ l.take (plain l)) row out (i + plain l)
  | [], _, _, _, _, _, _, _, h => by simp [plain] at h
  | c :: r, st, bg, f, row, out, i, hst, h => by
    have hs : stop c = false := by
      cases hx : stop c
      · rfl
      · simp [plain, hx] at h
    have hp : plain (c :: r) = plain r + 1 := by simp [plain, hs]
    have hs' := hs
    simp only [stop, Bool.or_eq_false_iff, beq_eq_false_iff_ne] at hs'
    rw [R_cons, if_neg (by omega), if_neg (fun h => hs'.1.1.2 h.1), if_neg (by omega), if_neg hs'.1.1.1, if_neg (fun h => hs'.1.2 h.1), if_neg (by
      rintro (h | h | h | h)
      · omega
      · exact hs'.1.1.2 h
      · exact hs'.1.2 h
      · exact hs'.2 h), hp]
    simp only [List.drop_succ_cons, List.take_succ_cons]
    by_cases h0 : plain r = 0
    · rw [h0]; simp
    · rw [R_plain r 1 true (f ++ [c]) row out (i + 1) (.inr rfl) (by omega)]
      simp only [List.append_assoc, List.singleton_append]
      congr 1; omega
theorem plain_stop : ∀ (l : F) (c : UInt8), (l.drop (plain l)).head? = some c → stop c = true
  | [], _, h => by simp [plain] at h
  | d :: r, c, h => by
    by_cases hs : stop d = true
    · simp [plain, hs] at h; subst h; exact hs
    · simp only [plain, hs, Bool.false_eq_true, if_false, List.drop_succ_cons] at h
      exact plain_stop r c h
theorem R_fld (l : F) (bg : Bool) (row : List F) (out : List (List F)) (i : Nat) (h : bg = true ∨ l ≠ []) : R l 0 bg [] row out i = nxt l (fld l) row out i := by
  unfold fld
  split
  · rename_i hq
    cases l with
    | nil => simp at hq
    | cons c r =>
      simp only [List.head?_cons, Option.some.injEq] at hq
      subst hq
      rw [R_cons, if_neg (by omega), if_pos ⟨rfl, rfl⟩, R_quo]
      exact (nxt_sh r [34] _ 1 row out i rfl).symm
  · rename_i hq
    have hlen := plain_len l
    have hn := nxt_sh (l.drop (plain l)) (l.take (plain l)) (beh (l.drop (plain l)) (l.take (plain l))) (plain l) row out i (by rw [List.length_take]; omega)
    rw [List.take_append_drop] at hn
    rw [hn]
    by_cases h0 : plain l = 0
    · rw [h0]
      simp only [List.drop_zero, List.take_zero, Nat.add_zero]
      have hst := plain_stop l
      rw [h0, List.drop_zero] at hst
      have hbg : R l 0 bg [] row out i = R l 0 true [] row out i := by
        rcases h with h | h
        · rw [h]
        · cases l with
          | nil => exact absurd rfl h
          | cons c r =>
            have hc := hst c rfl
            simp only [List.head?_cons, Option.some.injEq] at hq
            rw [R_cons, R_cons]
            simp only [hq, false_and, if_false]
            have : c = 44 ∨ c = 13 ∨ c = 10 := by
              rcases stop_cases hc with e | e | e | e
              · exact .inl e
              · exact absurd e hq
              · exact .inr (.inl e)
              · exact .inr (.inr e)
            rcases this with h | h | h <;> simp [h]
      rw [hbg]
      exact R_beh l 0 [] row out i (.inr (.inr ⟨rfl, hq, hst⟩))
    · rw [R_plain l 0 bg [] row out i (.inl rfl) (by omega)]
      simp only [List.nil_append]
      exact R_beh _ 1 _ row out _ (.inr (.inl ⟨rfl, plain_stop l⟩))
theorem R_prs : ∀ (n : Nat) (l : F) (bg : Bool) (row : List F) (out : List (List F)) (i : Nat), l.length < n → (bg = true ∨ l ≠ []) → R l 0 bg [] row out i = prs n l i out row
  | 0, _, _, _, _, _, h, _ => absurd h (by omega)
  | n + 1, l, bg, row, out, i, h, hb => by
    obtain ⟨h1, h2, h3, h4⟩ := fld_len l
    rw [R_fld l bg row out i hb]
    unfold nxt prs
    simp only
    split
    · rfl
    · split
      · rename_i hm
        split
        · rfl
        · rename_i hk
          have hkk := (h3 hm).resolve_left hk
          exact R_prs n _ false _ _ _ (by rw [List.length_drop]; omega) (.inr (by
            intro e
            have := congrArg List.length e
            rw [List.length_drop] at this; simp at this; omega))
      · exact R_prs n _ true _ _ _ (by rw [List.length_drop]; have := h2 (by omega); omega) (.inl rfl)
/-- the reference's answer is what is read -/
theorem ref_parse (l : F) : R l 0 false [] [] [] 0 = parse l := by
  unfold parse
  split
  · rename_i h; subst h; rfl
  · rename_i h
    exact R_prs _ l false [] [] 0 (by omega) (.inr h)

end Cs
end Go.Proofs.Ytnljlbhknbjinaa
