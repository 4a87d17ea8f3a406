/-
  Plain facts on decimal digits: what the program's numbers as texts are, by lists of bytes and whole numbers; no program is named here.
-/
namespace Go.Proofs.Ythbpkmmnoeikoaa
namespace Nm

/-- a digit's byte -/
def ch (d : Nat) : UInt8 := UInt8.ofNat (48 + d)
/-- digits, from behind, at most so many -/
def rd : Nat → Nat → List UInt8
  | 0, _ => []
  | f + 1, n => ch (n % 10) :: (if n < 10 then [] else rd f (n / 10))
/-- a number's digits -/
def pr (n : Int) : List UInt8 := (if n < 0 then [45] else []) ++ (rd 20 n.natAbs).reverse
def dig (c : UInt8) : Bool := decide (48 ≤ c.toNat) && decide (c.toNat ≤ 57)
/-- the number of digits, from behind -/
def vr : List UInt8 → Nat
  | [] => 0
  | c :: l => (c.toNat - 48) + 10 * vr l
def val (l : List UInt8) : Nat := vr l.reverse
def neg (s : List UInt8) : Bool := s.head? == some 45
def body (s : List UInt8) : List UInt8 := if neg s then s.tail else s
/-- the number of a text, or the error's number -/
def bad (s : List UInt8) : Bool := (body s).isEmpty || !((body s).all dig) || ((body s).head? == some 48 && (decide (1 < (body s).length) || neg s))
def bound (g : Bool) : Nat := if g then 9223372036854775808 else 9223372036854775807
def parse (s : List UInt8) : Int × Int :=
  if bad s then (0, 2)
  else if bound (neg s) < val (body s) then (0, 5)
  else (if neg s then -(val (body s) : Int) else val (body s), 0)
/-- how many digits a text begins with -/
def run : List UInt8 → Nat
  | [] => 0
  | c :: l => if dig c then run l + 1 else 0
def row (s : List UInt8) : Nat := if neg s then 1 + run s.tail else run s
def scan (s : List UInt8) (at_ : Int) : Int × Int × Int :=
  if at_ < 0 ∨ (s.length : Int) < at_ then (0, at_, 2)
  else
    let r := s.drop at_.toNat
    let p := parse (r.take (row r))
    if p.2 ≠ 0 then (0, at_, p.2) else (p.1, at_ + row r, 0)

theorem toNat_ch {d : Nat} (h : d < 10) : (ch d).toNat = 48 + d := by
  unfold ch; rw [UInt8.toNat_ofNat']; omega
theorem dig_ch {d : Nat} (h : d < 10) : dig (ch d) = true := by
  unfold dig; rw [toNat_ch h]; simp; omega
theorem ch_of {c : UInt8} (h : dig c = true) : ch (c.toNat - 48) = c := by
  unfold dig at h; simp at h
  apply UInt8.toNat_inj.1
  rw [toNat_ch (by omega)]; omega
theorem dig_range {c : UInt8} (h : dig c = true) : 48 ≤ c.toNat ∧ c.toNat ≤ 57 := by
  unfold dig at h; simpa using h

/-! ### digits of a number -/
theorem rd_dig : ∀ (f n : Nat), (rd f n).all dig = true
  | 0, _ => rfl
  | f + 1, n => by
    have := rd_dig f (n / 10)
    have h := dig_ch (d := n % 10) (by omega)
    unfold rd
    split <;> simp_all
theorem rd_len : ∀ (f n : Nat), (rd f n).length ≤ f
  | 0, _ => Nat.le_refl _
  | f + 1, n => by
    have := rd_len f (n / 10)
    unfold rd
    split <;> simp <;> omega
theorem rd_ne (f n : Nat) : rd (f + 1) n ≠ [] := by unfold rd; simp
theorem vr_rd : ∀ (f n : Nat), n < 10 ^ (f + 1) → vr (rd (f + 1) n) = n
  | 0, n, h => by
    simp at h
    have h1 := toNat_ch (d := n % 10) (by omega)
    simp only [rd, vr, h1, if_pos h]; omega
  | f + 1, n, h => by
    rw [rd]
    have ih := vr_rd f (n / 10) (by rw [Nat.pow_succ] at h; omega)
    have h1 := toNat_ch (d := n % 10) (by omega)
    split
    · simp [vr, h1]; omega
    · simp only [vr, h1, ih]; omega
theorem rd_last : ∀ (f n : Nat), n < 10 ^ (f + 1) → ∀ c, (rd (f + 1) n).getLast? = some c → c = 48 → n = 0
  | 0, n, h, c, hc, he => by
    simp at h
    simp [rd] at hc
    have h1 := toNat_ch (d := n % 10) (by omega)
    subst he; rw [hc] at h1
    have : (48 : UInt8).toNat = 48 := rfl
    omega
  | f + 1, n, h, c, hc, he => by
    rw [rd] at hc
    split at hc
    · simp at hc
      have h1 := toNat_ch (d := n % 10) (by omega)
      subst he; rw [hc] at h1
      have : (48 : UInt8).toNat = 48 := rfl
      omega
    · have hne := rd_ne f (n / 10)
      rw [List.getLast?_cons] at hc
      have h2 : (rd (f + 1) (n / 10)).getLast? = some c := by
        cases hl : (rd (f + 1) (n / 10)).getLast? with
        | none => simp [List.getLast?_eq_none_iff] at hl; exact absurd hl hne
        | some d => rw [hl] at hc; simpa using hc
      have := rd_last f (n / 10) (by rw [Nat.pow_succ] at h; omega) c h2 he
      omega
/-- what is read from behind is what would be printed -/
theorem vr_lo : ∀ (r : List UInt8), r.all dig = true → (∀ c, r.getLast? = some c → c ≠ 48) → r ≠ [] → 10 ^ (r.length - 1) ≤ vr r
  | [], _, _, h => absurd rfl h
  | [c], ha, hl, _ => by
    simp at ha
    have h1 := dig_range ha
    have h2 := hl c rfl
    have : c.toNat ≠ 48 := fun e => h2 (UInt8.toNat_inj.1 e)
    simp [vr]; omega
  | c :: d :: r, ha, hl, _ => by
    simp only [List.all_cons, Bool.and_eq_true] at ha
    have ih := vr_lo (d :: r) (by simp [ha.2]) (fun x hx => hl x (by rw [List.getLast?_cons_cons]; exact hx)) (by simp)
    rw [vr]
    simp only [List.length_cons, Nat.add_sub_cancel] at ih ⊢
    rw [Nat.pow_succ]; omega
theorem rd_vr : ∀ (f : Nat) (r : List UInt8), r.all dig = true → ((∀ c, r.getLast? = some c → c ≠ 48) ∨ r.length = 1) → r ≠ [] → r.length ≤ f → rd f (vr r) = r
  | 0, r, _, _, hn, hf => by
    have : r = [] := List.eq_nil_of_length_eq_zero (by omega)
    exact absurd this hn
  | f + 1, [], _, _, hn, _ => absurd rfl hn
  | f + 1, [c], ha, _, _, _ => by
    simp at ha
    have h1 := dig_range ha
    rw [rd]
    have h2 : vr [c] = c.toNat - 48 := by simp [vr]
    rw [h2, if_pos (by omega), Nat.mod_eq_of_lt (by omega), ch_of ha]
  | f + 1, c :: d :: r, ha, hl, _, hf => by
    simp only [List.all_cons, Bool.and_eq_true] at ha
    have h1 := dig_range ha.1
    have hl' : ∀ x, (d :: r).getLast? = some x → x ≠ 48 := by
      rcases hl with hl | hl
      · intro x hx; exact hl x (by rw [List.getLast?_cons_cons]; exact hx)
      · simp at hl
    have hlo := vr_lo (d :: r) (by simp [ha.2]) hl' (by simp)
    have ih := rd_vr f (d :: r) (by simp [ha.2]) (.inl hl') (by simp) (by simp at hf ⊢; omega)
    have hp : 0 < 10 ^ ((d :: r).length - 1) := Nat.pow_pos (by omega)
    rw [rd]
    have hv : vr (c :: d :: r) = (c.toNat - 48) + 10 * vr (d :: r) := rfl
    rw [hv, if_neg (by omega)]
    have e1 : (c.toNat - 48 + 10 * vr (d :: r)) % 10 = c.toNat - 48 := by omega
    have e2 : (c.toNat - 48 + 10 * vr (d :: r)) / 10 = vr (d :: r) := by omega
    rw [e1, e2, ih, ch_of ha.1]

/-! ### the number's own digits -/
theorem natAbs_lt {n : Int} (h1 : -9223372036854775808 ≤ n) (h2 : n ≤ 9223372036854775807) : n.natAbs < 10 ^ 20 := by
  have : (10 : Nat) ^ 20 = 100000000000000000000 := by decide
  omega
theorem rdr_ne (n : Nat) : (rd 20 n).reverse ≠ [] := by simp [rd_ne]
theorem pr_head {n : Int} : (pr n).head? = some 45 ↔ n < 0 := by
  unfold pr
  by_cases h : n < 0
  · simp [h]
  · simp only [h, if_false, List.nil_append, iff_false]
    intro e
    have ha := rd_dig 20 n.natAbs
    have hm : (45 : UInt8) ∈ rd 20 n.natAbs := by
      have := List.mem_of_head? e
      simpa using this
    have := List.all_eq_true.1 ha 45 hm
    revert this; decide
theorem neg_pr {n : Int} : neg (pr n) = decide (n < 0) := by
  unfold neg
  by_cases h : n < 0
  · rw [pr_head.2 h]; simp [h]
  · have : (pr n).head? ≠ some 45 := fun e => h (pr_head.1 e)
    simp [this, h]
theorem body_pr {n : Int} : body (pr n) = (rd 20 n.natAbs).reverse := by
  unfold body
  rw [neg_pr]
  by_cases h : n < 0
  · simp [h, pr]
  · simp [h, pr]
theorem pr_length (n : Int) : 0 < (pr n).length ∧ (pr n).length ≤ 20 + (if n < 0 then 1 else 0) := by
  have h1 := rd_len 20 n.natAbs
  have h2 : 0 < (rd 20 n.natAbs).length := List.length_pos_iff.2 (rd_ne 19 _)
  unfold pr
  by_cases h : n < 0 <;> simp [h] <;> omega
theorem rd_short : ∀ (k f n : Nat), n < 10 ^ k → 0 < k → (rd f n).length ≤ k
  | 0, _, _, _, h => absurd h (by omega)
  | k + 1, 0, _, _, _ => by simp [rd]
  | k + 1, f + 1, n, h, _ => by
    rw [rd]
    split
    · simp
    · have hk : 0 < k := by
        rcases Nat.eq_zero_or_pos k with h0 | h0
        · subst h0; simp at h; omega
        · exact h0
      have := rd_short k f (n / 10) (by rw [Nat.pow_succ] at h; omega) hk
      simp; omega
theorem pr_len20 {n : Int} (h1 : -9223372036854775808 ≤ n) (h2 : n ≤ 9223372036854775807) : (pr n).length ≤ 20 := by
  have : (10 : Nat) ^ 19 = 10000000000000000000 := by decide
  have h := rd_short 19 20 n.natAbs (by omega) (by omega)
  unfold pr
  by_cases h : n < 0 <;> simp [h] <;> omega
theorem all_rev {l : List UInt8} : l.reverse.all dig = l.all dig := by simp
theorem bad_pr {n : Int} (h1 : -9223372036854775808 ≤ n) (h2 : n ≤ 9223372036854775807) : bad (pr n) = false := by
  unfold bad
  rw [body_pr, neg_pr]
  have ha := rd_dig 20 n.natAbs
  have hl := rd_last 19 n.natAbs (natAbs_lt h1 h2)
  have hne := rd_ne 19 n.natAbs
  have e1 : (rd 20 n.natAbs).reverse.isEmpty = false := by simp [hne]
  rw [e1, all_rev, ha]
  simp only [Bool.not_true, Bool.false_or, List.head?_reverse, List.length_reverse]
  cases hc : (rd 20 n.natAbs).getLast? with
  | none => simp
  | some c =>
    by_cases hc48 : c = 48
    · have h0 := hl c hc hc48
      have : n = 0 := by omega
      subst this
      have e0 : (rd 20 0).length = 1 := by decide
      have e1 : (rd 20 (Int.natAbs 0)).length = 1 := e0
      rw [e1]; simp
    · simp [hc48]
theorem parse_pr {n : Int} (h1 : -9223372036854775808 ≤ n) (h2 : n ≤ 9223372036854775807) : parse (pr n) = (n, 0) := by
  have hv : val (body (pr n)) = n.natAbs := by
    rw [body_pr]; unfold val; rw [List.reverse_reverse]; exact vr_rd 19 _ (natAbs_lt h1 h2)
  unfold parse
  rw [bad_pr h1 h2, hv, neg_pr]
  unfold bound
  by_cases h : n < 0
  · simp only [h, decide_true, if_true]
    rw [if_neg (by simp), if_neg (by omega)]; congr 1; omega
  · simp only [h, decide_false]
    rw [if_neg (by simp), if_neg (by simp; omega)]; simp; omega
/-- what is read is what would be printed -/
theorem pr_parse {s : List UInt8} {x : Int} (h : parse s = (x, 0)) : pr x = s ∧ -9223372036854775808 ≤ x ∧ x ≤ 9223372036854775807 := by
  unfold parse at h
  by_cases hb : bad s = true
  · rw [if_pos hb] at h; simp at h
  · rw [if_neg hb] at h
    by_cases hg : bound (neg s) < val (body s)
    · rw [if_pos hg] at h; simp at h
    · rw [if_neg hg] at h
      simp only [Prod.mk.injEq, and_true] at h
      have hb' : bad s = false := by simpa using hb
      unfold bad at hb'
      simp only [Bool.or_eq_false_iff, Bool.not_eq_false', Bool.and_eq_false_iff] at hb'
      obtain ⟨⟨hne, hall⟩, hz⟩ := hb'
      have hne' : body s ≠ [] := by simpa using hne
      have hrev : (body s).reverse.all dig = true := by rw [all_rev]; exact hall
      have hlast : (∀ c, (body s).reverse.getLast? = some c → c ≠ 48) ∨ (body s).reverse.length = 1 := by
        rcases hz with hz | hz
        · left
          intro c hc e
          rw [List.getLast?_reverse] at hc
          subst e; rw [hc] at hz; simp at hz
        · right
          have : 0 < (body s).length := List.length_pos_iff.2 hne'
          have hz1 := hz.1
          simp at hz1
          rw [List.length_reverse]; omega
      have hlen : (body s).length ≤ 20 := by
        rcases hlast with hl | hl
        · have hlo := vr_lo (body s).reverse hrev hl (by simpa using hne')
          have hv : vr (body s).reverse ≤ 9223372036854775808 := by
            have : val (body s) ≤ bound (neg s) := by omega
            unfold bound at this
            unfold val at this
            split at this <;> omega
          rcases Nat.lt_or_ge 20 (body s).length with hgt | hle
          · have : (10 : Nat) ^ 20 ≤ 10 ^ ((body s).reverse.length - 1) := Nat.pow_le_pow_right (by omega) (by rw [List.length_reverse]; omega)
            have e : (10 : Nat) ^ 20 = 100000000000000000000 := by decide
            omega
          · exact hle
        · rw [List.length_reverse] at hl; omega
      have hrd := rd_vr 20 (body s).reverse hrev hlast (by simpa using hne') (by rw [List.length_reverse]; exact hlen)
      have hrd' : (rd 20 (val (body s))).reverse = body s := by
        unfold val; rw [hrd, List.reverse_reverse]
      have hbd : val (body s) ≤ bound (neg s) := by omega
      by_cases hn : neg s = true
      · rw [if_pos hn] at h
        have hs : s = 45 :: body s := by
          unfold body; rw [if_pos hn]
          unfold neg at hn
          cases s with
          | nil => simp at hn
          | cons c l => simp at hn; simp [hn]
        have hpos : 0 < val (body s) := by
          rcases hz with hz | hz
          · have hl : ∀ c, (body s).reverse.getLast? = some c → c ≠ 48 := by
              intro c hc e
              rw [List.getLast?_reverse] at hc
              subst e; rw [hc] at hz; simp at hz
            have hlo := vr_lo (body s).reverse hrev hl (by simpa using hne')
            have : 0 < 10 ^ ((body s).reverse.length - 1) := Nat.pow_pos (by omega)
            unfold val; omega
          · rw [hn] at hz; simp at hz
        unfold bound at hbd; rw [if_pos hn] at hbd
        refine ⟨?_, by omega, by omega⟩
        subst h
        unfold pr
        rw [if_pos (by omega)]
        have : (-(val (body s) : Int)).natAbs = val (body s) := by omega
        rw [this, hrd']; exact hs.symm
      · rw [if_neg hn] at h
        have hs : body s = s := by unfold body; rw [if_neg hn]
        unfold bound at hbd; rw [if_neg hn] at hbd
        refine ⟨?_, by omega, by omega⟩
        subst h
        unfold pr
        rw [if_neg (by omega)]
        have : ((val (body s) : Nat) : Int).natAbs = val (body s) := by omega
        rw [this, hrd', hs]; rfl
theorem parse_err {s : List UInt8} (h : (parse s).2 ≠ 0) : (parse s).1 = 0 := by
  unfold parse at h ⊢
  split
  · rfl
  · split
    · rfl
    · rw [if_neg (by assumption), if_neg (by assumption)] at h; simp at h
theorem parse_range (s : List UInt8) : -9223372036854775808 ≤ (parse s).1 ∧ (parse s).1 ≤ 9223372036854775807 := by
  by_cases h : (parse s).2 = 0
  · exact (pr_parse (s := s) (x := (parse s).1) (by rw [← h])).2
  · rw [parse_err h]; omega
theorem parse_code (s : List UInt8) : (parse s).2 = 0 ∨ (parse s).2 = 2 ∨ (parse s).2 = 5 := by
  unfold parse; split
  · simp
  · split <;> simp

/-! ### at a place of a text -/
theorem run_digs : ∀ (d r : List UInt8), d.all dig = true → (∀ c, r.head? = some c → dig c = false) → run (d ++ r) = d.length
  | [], [], _, _ => rfl
  | [], c :: r, _, h => by simp [run, h c rfl]
  | c :: d, r, ha, h => by
    simp only [List.all_cons, Bool.and_eq_true] at ha
    simp only [List.cons_append, run, ha.1, if_true, List.length_cons]
    rw [run_digs d r ha.2 h]
theorem row_pr (n : Int) (r : List UInt8) (h : ∀ c, r.head? = some c → dig c = false) : row (pr n ++ r) = (pr n).length := by
  have hd := rd_dig 20 n.natAbs
  rw [← all_rev] at hd
  have hne : pr n ≠ [] := List.ne_nil_of_length_pos (pr_length n).1
  have hneg : neg (pr n ++ r) = decide (n < 0) := by
    rw [← neg_pr]; unfold neg
    cases hp : pr n with
    | nil => exact absurd hp hne
    | cons c l => rfl
  unfold row
  rw [hneg]
  by_cases hn : n < 0
  · simp only [hn, decide_true, if_true]
    have : pr n = 45 :: (rd 20 n.natAbs).reverse := by unfold pr; simp [hn]
    rw [this]
    simp only [List.cons_append, List.tail_cons, List.length_cons]
    rw [run_digs _ r hd h]; omega
  · simp only [hn, decide_false]
    have : pr n = (rd 20 n.natAbs).reverse := by unfold pr; simp [hn]
    rw [this, if_neg (by simp), run_digs _ r hd h]
theorem scan_pr {n : Int} (h1 : -9223372036854775808 ≤ n) (h2 : n ≤ 9223372036854775807) (s : List UInt8) : scan (pr n ++ 120 :: s) 0 = (n, ((pr n).length : Int), 0) := by
  have hr := row_pr n (120 :: s) (by intro c hc; simp at hc; subst hc; decide)
  unfold scan
  rw [if_neg (by simp only [List.length_append]; omega)]
  simp only [Int.toNat_zero, List.drop_zero, hr, List.take_left, parse_pr h1 h2]
  simp

end Nm
end Go.Proofs.Ythbpkmmnoeikoaa
