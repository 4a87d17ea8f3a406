/-
  Several texts in one, each with its own head below. Conditions: as each says.
-/
import Derived.Test.YthbpkmmnoeikoaaTokNextJm
import Derived.Test.YthbpkmmnoeikoaaJm01
import Derived.Test.YthbpkmmnoeikoaaJm02
import Derived.Shelf.Abstract
import Derived.Shelf.RegionOpen
import Derived.OwnWalkIn
import Derived.TacticsInMore
import Derived.LoopNIn
import Derived.LoopIn
import Derived.Maps.AppendAt
import Derived.BigFrameIn
import Derived.BigGuardIn
import Derived.OrdersHeld
import Derived.OrdersIn
import Derived.Deep.AppendLies
import Derived.Maps.OwnIn
import Derived.Test.YthbpkmmnoeikoaaJm03
import Derived.Deep.RegionWith
import Derived.Deep.QuietTactic
import Derived.BigQuiet
/-
  A text's tokens, one behind the other, with the place behind each, up to the end or an error. No program text.
-/
namespace Go.Proofs.Ythbpkmmnoeikoaa
set_option linter.unusedVariables false
set_option linter.unusedSimpArgs false

theorem txt_le : ∀ (n : Nat) (l a : List UInt8), (Tk.txt n l a).2.1 ≤ l.length
  | 0, _, _ => by simp [Tk.txt]
  | n + 1, [], _ => by simp [Tk.txt]
  | n + 1, c :: r, a => by
    rw [Tk.txt]
    split
    · simp
    · split
      · cases he : Tk.esc (c :: r) with
        | none => simp
        | some p =>
          have h1 := esc_len he
          have h2 := txt_le n ((c :: r).drop p.2) (a ++ p.1)
          rw [List.length_drop] at h2
          simp only [Tk.sh]; omega
      · cases hg : Uf.get (c :: r) with
        | none => simp
        | some p =>
          have h1 := get_len hg
          have h2 := txt_le n ((c :: r).drop p.2) (a ++ (c :: r).take p.2)
          rw [List.length_drop] at h2
          dsimp only
          split
          · simp
          · simp only [Tk.sh]; omega

theorem mark_pos {c : UInt8} {j : Nat} (h : Tk.mark c = some j) : 1 ≤ j ∧ j ≤ 6 := by
  unfold Tk.mark at h
  repeat' split at h
  all_goals first | (cases h; omega) | (cases h)
theorem span_pos {p : UInt8 → Bool} {c : UInt8} (r : List UInt8) (h : p c = true) : 1 ≤ Tk.span p (c :: r) := by rw [Tk.span_cons, if_pos h]; omega

structure TokOk (k n : Nat) (p : Tk.Tok × Nat × Int) : Prop where
  lo : k ≤ p.2.1
  hi : p.2.1 ≤ k + n
  at' : p.2.2 = 0 → p.1.at' = k
  end' : p.2.2 = 0 → p.1.end' = p.2.1
  fin : p.2.2 = 0 → p.1.kind = 0 → n = 0
  go : p.2.2 = 0 → p.1.kind ≠ 0 → k < p.2.1

theorem tok_ok (k : Nat) (m : List UInt8) : TokOk k m.length (Tk.tok k m) := by
  cases m with
  | nil => exact ⟨Nat.le_refl _, Nat.le_refl _, fun _ => rfl, fun _ => rfl, fun _ _ => rfl, fun _ h => absurd rfl h⟩
  | cons c r =>
    rw [Tk.tok]
    cases hm : Tk.mark c with
    | some j =>
      have := mark_pos hm
      exact ⟨by simp, by simp, fun _ => rfl, fun _ => rfl, fun _ h => by simp at h; omega, fun _ _ => by simp⟩
    | none =>
      dsimp only
      by_cases h34 : c = 34
      · rw [if_pos h34]
        have h := txt_le (r.length + 1) r []
        split
        · exact ⟨by dsimp only; omega, by dsimp only [List.length_cons]; omega, fun _ => rfl, fun _ => rfl, fun _ h => by simp at h, fun _ _ => by dsimp only; omega⟩
        · exact ⟨by dsimp only; omega, by dsimp only [List.length_cons]; omega, fun h => by simp at h, fun h => by simp at h, fun h => by simp at h, fun h => by simp at h⟩
      · rw [if_neg h34]
        by_cases hd : Tk.dig c = true ∨ c = 45
        · rw [if_pos hd]
          have h1 := Tk.span_le Tk.numc (c :: r)
          have h2 : 1 ≤ Tk.span Tk.numc (c :: r) := span_pos r (by unfold Tk.numc; rcases hd with h | h <;> simp [h])
          split
          · rename_i he
            exact ⟨by dsimp only; omega, by dsimp only [List.length_cons]; omega, fun h => absurd h he, fun h => absurd h he, fun h => absurd h he, fun h => absurd h he⟩
          · exact ⟨by dsimp only; omega, by dsimp only; omega, fun _ => rfl, fun _ => rfl, fun _ h => by simp at h, fun _ _ => by dsimp only; omega⟩
        · rw [if_neg hd]
          have h1 := Tk.span_le Tk.let' (c :: r)
          split
          · rename_i hw
            have h2 : 1 ≤ Tk.span Tk.let' (c :: r) := by
              rcases Nat.eq_zero_or_pos (Tk.span Tk.let' (c :: r)) with h | h
              · have : (c :: r).takeWhile Tk.let' = [] := List.eq_nil_of_length_eq_zero h
                rw [this] at hw
                simp [Tk.word] at hw
              · exact h
            exact ⟨by dsimp only; omega, by dsimp only; omega, fun _ => rfl, fun _ => rfl, fun _ h => by simp at h, fun _ _ => by dsimp only; omega⟩
          · exact ⟨by dsimp only; omega, by dsimp only [List.length_cons]; omega, fun h => by simp at h, fun h => by simp at h, fun h => by simp at h, fun h => by simp at h⟩

structure NextOk (l : List UInt8) (a : Nat) (p : Tk.Tok × Nat × Int) : Prop where
  lo : a ≤ p.2.1
  hi : p.2.1 ≤ l.length
  at' : p.2.2 = 0 → a ≤ p.1.at'
  end' : p.2.2 = 0 → p.1.end' = p.2.1
  fin : p.2.2 = 0 → p.1.kind = 0 → p.2.1 = l.length ∧ p.1.at' = p.1.end'
  go : p.2.2 = 0 → p.1.kind ≠ 0 → a < p.2.1 ∧ p.1.at' < p.1.end'

theorem next_ok (l : List UInt8) (a : Nat) (ha : a ≤ l.length) : NextOk l a (Tk.next l a) := by
  unfold Tk.next
  have h1 := Tk.span_le Tk.blank (l.drop a)
  rw [List.length_drop] at h1
  have h := tok_ok (a + Tk.span Tk.blank (l.drop a)) (l.drop (a + Tk.span Tk.blank (l.drop a)))
  rw [List.length_drop] at h
  generalize Tk.span Tk.blank (l.drop a) = b at *
  generalize Tk.tok (a + b) (l.drop (a + b)) = p at *
  have h2 := h.lo
  have h3 := h.hi
  exact ⟨by omega, by omega, fun e => by have := h.at' e; omega, h.end', fun e k => by have h4 := h.fin e k; have := h.at' e; have := h.end' e; omega, fun e k => by have h4 := h.go e k; have := h.at' e; have := h.end' e; omega⟩

/-- a text's tokens from a place on, each with the place behind it and the error -/
def its : Nat → List UInt8 → Nat → List (Tk.Tok × Nat × Int)
  | 0, _, _ => []
  | n + 1, l, a => Tk.next l a :: if (Tk.next l a).2.2 ≠ 0 ∨ (Tk.next l a).1.kind = 0 then [] else its n l (Tk.next l a).2.1
def iall (l : List UInt8) : List (Tk.Tok × Nat × Int) := its (l.length + 1) l 0
def good (T : List (Tk.Tok × Nat × Int)) : List Tk.Tok := (T.filter (fun x => x.2.2 == 0)).map (·.1)
def iend (T : List (Tk.Tok × Nat × Int)) : Nat := (T.getLast?.map (·.2.1)).getD 0
def ierr (T : List (Tk.Tok × Nat × Int)) : Int := (T.getLast?.map (·.2.2)).getD 0
/-- all tokens: the good ones, where it ends, the error -/
def toks (l : List UInt8) : List Tk.Tok × Nat × Int := (good (iall l), iend (iall l), ierr (iall l))

theorem its_succ (n : Nat) (l : List UInt8) (a : Nat) : its (n + 1) l a = Tk.next l a :: if (Tk.next l a).2.2 ≠ 0 ∨ (Tk.next l a).1.kind = 0 then [] else its n l (Tk.next l a).2.1 := rfl
theorem good_snoc (T : List (Tk.Tok × Nat × Int)) (x : Tk.Tok × Nat × Int) : good (T ++ [x]) = if x.2.2 = 0 then good T ++ [x.1] else good T := by
  unfold good
  by_cases h : x.2.2 = 0
  · rw [if_pos h]; simp [h]
  · rw [if_neg h]; simp [h]
theorem iend_snoc (T : List (Tk.Tok × Nat × Int)) (x : Tk.Tok × Nat × Int) : iend (T ++ [x]) = x.2.1 := by unfold iend; simp
theorem ierr_snoc (T : List (Tk.Tok × Nat × Int)) (x : Tk.Tok × Nat × Int) : ierr (T ++ [x]) = x.2.2 := by unfold ierr; simp
theorem good_len (T : List (Tk.Tok × Nat × Int)) : (good T).length ≤ T.length := by unfold good; simp; exact List.length_filter_le _ _
/-- how many there are -/
theorem its_len : ∀ (n : Nat) (l : List UInt8) (a : Nat), a ≤ l.length → (its n l a).length ≤ l.length - a + 1
  | 0, _, _, _ => by simp [its]
  | n + 1, l, a, ha => by
    have hk := next_ok l a ha
    rw [its_succ]
    split
    · simp
    · rename_i h
      have h1 := hk.go (by omega) (by omega)
      have ih := its_len n l _ hk.hi
      have h2 := hk.hi
      rw [List.length_cons]; omega

end Go.Proofs.Ythbpkmmnoeikoaa

/-
  JSON's things: what a text's tokens say, read as the document says. No program text.
-/
namespace Go.Proofs.Ythbpkmmnoeikoaa.Js
set_option linter.unusedVariables false
set_option linter.unusedSimpArgs false
abbrev F := List UInt8

/-- a thing: its kind, number, text, names, things -/
inductive J where
  | mk (kind n : Int) (s : F) (names : List F) (l : List J)

/-- something, or an error: its place and number; none: the fuel is out -/
abbrev Re (α : Type) := Except (Option (Nat × Int)) α
def nx (l : F) (t : Tk.Tok) : Re Tk.Tok := if (Tk.next l t.end').2.2 = 0 then .ok (Tk.next l t.end').1 else .error (some ((Tk.next l t.end').2.1, (Tk.next l t.end').2.2))

/-- one behind the other, with commas between -/
def rowG {σ : Type} (l : F) (one : σ → Tk.Tok → Re (σ × Tk.Tok)) : Nat → σ → Tk.Tok → Re (σ × Tk.Tok)
  | 0, _, _ => .error none
  | n + 1, q, t => match one q t with
    | .error e => .error e
    | .ok p => if p.2.kind = 6 then (match nx l p.2 with | .error e => .error e | .ok t3 => rowG l one n p.1 t3) else .ok p
/-- a member's name and its colon -/
def key (l : F) (ns : List F) (t : Tk.Tok) : Re (List F × Tk.Tok) :=
  if t.kind ≠ 7 then .error (some (t.at', 2)) else if t.s ∈ ns then .error (some (t.at', 6)) else
  match nx l t with
  | .error e => .error e
  | .ok t1 => if t1.kind ≠ 5 then .error (some (t1.at', 2)) else
    match nx l t1 with
    | .error e => .error e
    | .ok t2 => .ok (ns ++ [t.s], t2)
abbrev St := List F × List J
/-- a list's next -/
def oneL (th : Tk.Tok → Re (J × Tk.Tok)) (q : St) (t : Tk.Tok) : Re (St × Tk.Tok) :=
  match th t with
  | .error e => .error e
  | .ok p => .ok ((q.1, q.2 ++ [p.1]), p.2)
/-- a member -/
def oneO (l : F) (th : Tk.Tok → Re (J × Tk.Tok)) (q : St) (t : Tk.Tok) : Re (St × Tk.Tok) :=
  match key l q.1 t with
  | .error e => .error e
  | .ok k => match th k.2 with
    | .error e => .error e
    | .ok p => .ok ((k.1, q.2 ++ [p.1]), p.2)
/-- what stands between brackets; t: the one that opens -/
def row {σ : Type} (l : F) (one : σ → Tk.Tok → Re (σ × Tk.Tok)) (close : Nat) (d : Int) (q : σ) (t : Tk.Tok) : Re (σ × Tk.Tok) :=
  if d ≤ 0 then .error (some (t.at', 3)) else
  match nx l t with
  | .error e => .error e
  | .ok t1 => match (if t1.kind = close then .ok (q, t1) else rowG l one (l.length + 2) q t1) with
    | .error e => .error e
    | .ok p => if p.2.kind = close then .ok p else .error (some (p.2.at', 2))
def wNull : F := [110, 117, 108, 108]
def wTrue : F := [116, 114, 117, 101]
/-- then the next -/
def fin (l : F) (x : J) (t : Tk.Tok) : Re (J × Tk.Tok) := match nx l t with | .error e => .error e | .ok t3 => .ok (x, t3)
def thing : Nat → F → Int → Tk.Tok → Re (J × Tk.Tok)
  | 0 => fun _ _ _ => .error none
  | n + 1 => fun l d t =>
    if t.kind = 1 then (match row l (oneL (thing n l (d - 1))) 2 d ([], []) t with | .error e => .error e | .ok p => fin l (.mk 5 0 [] p.1.1 p.1.2) p.2)
    else if t.kind = 3 then (match row l (oneO l (thing n l (d - 1))) 4 d ([], []) t with | .error e => .error e | .ok p => fin l (.mk 6 0 [] p.1.1 p.1.2) p.2)
    else if t.kind = 7 then fin l (.mk 4 0 t.s [] []) t
    else if t.kind = 8 then fin l (.mk 2 t.n [] [] []) t
    else if t.kind = 9 then fin l (.mk (if t.s = wNull then 0 else 1) (if t.s = wTrue then 1 else 0) [] [] []) t
    else .error (some (t.at', 2))
/-- a text's thing -/
def parse (l : F) (d : Int) : Re J :=
  match nx l Tk.zero with
  | .error e => .error e
  | .ok t => match thing (d.toNat + 1) l d t with
    | .error e => .error e
    | .ok p => if p.2.kind = 0 then .ok p.1 else .error (some (p.2.at', 2))

/-- how much may come yet -/
def mu (l : F) (t : Tk.Tok) : Nat := if t.kind = 0 then 0 else l.length - t.end' + 1
def Fu {α : Type} (r : Re α) : Prop := r ≠ .error none

theorem nx_err {l : F} {t : Tk.Tok} {e : Option (Nat × Int)} (h : nx l t = .error e) : e = some ((Tk.next l t.end').2.1, (Tk.next l t.end').2.2) ∧ (Tk.next l t.end').2.2 ≠ 0 := by
  unfold nx at h
  split at h
  · cases h
  · rename_i h2
    cases h; exact ⟨rfl, h2⟩
theorem nx_ok {l : F} {t t1 : Tk.Tok} (h : nx l t = .ok t1) : (Tk.next l t.end').2.2 = 0 ∧ (Tk.next l t.end').1 = t1 := by
  unfold nx at h
  split at h
  · rename_i h2
    cases h; exact ⟨h2, rfl⟩
  · cases h
theorem nx_wf {l : F} {t t1 : Tk.Tok} (h : nx l t = .ok t1) (ht : t.end' ≤ l.length) : t1.end' ≤ l.length ∧ (t.kind ≠ 0 → mu l t1 < mu l t) := by
  obtain ⟨h1, rfl⟩ := nx_ok h
  have hk := next_ok l t.end' ht
  have he := hk.end' h1
  have hi := hk.hi
  refine ⟨by omega, fun h0 => ?_⟩
  unfold mu
  rw [if_neg h0]
  by_cases h2 : (Tk.next l t.end').1.kind = 0
  · rw [if_pos h2]; omega
  · rw [if_neg h2]
    have := (hk.go h1 h2).1
    omega

/-- it takes something, and stays in the text -/
def Eats {σ : Type} (l : F) (one : σ → Tk.Tok → Re (σ × Tk.Tok)) : Prop := ∀ q t p, one q t = .ok p → t.end' ≤ l.length → p.2.end' ≤ l.length ∧ mu l p.2 < mu l t
theorem rowG_wf {σ : Type} {l : F} {one : σ → Tk.Tok → Re (σ × Tk.Tok)} (ho : Eats l one) : ∀ (n : Nat) (q : σ) (t : Tk.Tok) (p : σ × Tk.Tok), rowG l one n q t = .ok p → t.end' ≤ l.length → p.2.end' ≤ l.length ∧ mu l p.2 < mu l t
  | 0, _, _, _, h, _ => by cases h
  | n + 1, q, t, p, h, ht => by
    rw [rowG] at h
    cases h1 : one q t with
    | error e => rw [h1] at h; cases h
    | ok r =>
      rw [h1] at h
      dsimp only at h
      obtain ⟨a1, a2⟩ := ho q t r h1 ht
      by_cases h6 : r.2.kind = 6
      · rw [if_pos h6] at h
        cases h3 : nx l r.2 with
        | error e => rw [h3] at h; cases h
        | ok t3 =>
          rw [h3] at h
          obtain ⟨b1, b2⟩ := nx_wf h3 a1
          have b3 := b2 (by omega)
          obtain ⟨c1, c2⟩ := rowG_wf ho n r.1 t3 p h b1
          exact ⟨c1, by omega⟩
      · rw [if_neg h6] at h
        cases h
        exact ⟨a1, a2⟩
theorem rowG_fu {σ : Type} {l : F} {one : σ → Tk.Tok → Re (σ × Tk.Tok)} (ho : Eats l one) (hf : ∀ q t, t.end' ≤ l.length → Fu (one q t)) : ∀ (n : Nat) (q : σ) (t : Tk.Tok), t.end' ≤ l.length → mu l t < n → Fu (rowG l one n q t)
  | 0, _, _, _, h => by omega
  | n + 1, q, t, ht, hn => by
    intro h
    rw [rowG] at h
    cases h1 : one q t with
    | error e => rw [h1] at h; cases h; exact hf q t ht h1
    | ok r =>
      rw [h1] at h
      dsimp only at h
      obtain ⟨a1, a2⟩ := ho q t r h1 ht
      by_cases h6 : r.2.kind = 6
      · rw [if_pos h6] at h
        cases h3 : nx l r.2 with
        | error e =>
          rw [h3] at h
          obtain ⟨e1, _⟩ := nx_err h3
          rw [e1] at h; cases h
        | ok t3 =>
          rw [h3] at h
          obtain ⟨b1, b2⟩ := nx_wf h3 a1
          have b3 := b2 (by omega)
          exact rowG_fu ho hf n r.1 t3 b1 (by omega) h
      · rw [if_neg h6] at h; cases h
theorem mu_le (l : F) (t : Tk.Tok) : mu l t ≤ l.length + 1 := by unfold mu; split <;> omega
theorem row_wf {σ : Type} {l : F} {one : σ → Tk.Tok → Re (σ × Tk.Tok)} (ho : Eats l one) {close : Nat} {d : Int} {q : σ} {t : Tk.Tok} {p : σ × Tk.Tok} (h : row l one close d q t = .ok p) (ht : t.end' ≤ l.length) (h0 : t.kind ≠ 0) :
    p.2.end' ≤ l.length ∧ mu l p.2 < mu l t ∧ p.2.kind = close := by
  unfold row at h
  split at h
  · cases h
  · cases h1 : nx l t with
    | error e => rw [h1] at h; cases h
    | ok t1 =>
      rw [h1] at h
      dsimp only at h
      obtain ⟨a1, a2⟩ := nx_wf h1 ht
      have a3 := a2 h0
      by_cases hc : t1.kind = close
      · rw [if_pos hc] at h
        dsimp only at h
        rw [if_pos hc] at h
        cases h
        exact ⟨a1, a3, hc⟩
      · rw [if_neg hc] at h
        cases h2 : rowG l one (l.length + 2) q t1 with
        | error e => rw [h2] at h; cases h
        | ok r =>
          rw [h2] at h
          dsimp only at h
          obtain ⟨b1, b2⟩ := rowG_wf ho _ _ _ _ h2 a1
          by_cases hk : r.2.kind = close
          · rw [if_pos hk] at h
            cases h
            exact ⟨b1, by omega, hk⟩
          · rw [if_neg hk] at h; cases h
theorem row_fu {σ : Type} {l : F} {one : σ → Tk.Tok → Re (σ × Tk.Tok)} (ho : Eats l one) {close : Nat} {d : Int} {q : σ} {t : Tk.Tok} (hf : 0 < d → ∀ q t, t.end' ≤ l.length → Fu (one q t)) (ht : t.end' ≤ l.length) : Fu (row l one close d q t) := by
  intro h
  unfold row at h
  split at h
  · cases h
  · rename_i hd
    cases h1 : nx l t with
    | error e =>
      rw [h1] at h
      obtain ⟨e1, _⟩ := nx_err h1
      rw [e1] at h; cases h
    | ok t1 =>
      rw [h1] at h
      dsimp only at h
      obtain ⟨a1, _⟩ := nx_wf h1 ht
      by_cases hc : t1.kind = close
      · rw [if_pos hc] at h
        dsimp only at h
        rw [if_pos hc] at h
        cases h
      · rw [if_neg hc] at h
        have hm := mu_le l t1
        cases h2 : rowG l one (l.length + 2) q t1 with
        | error e =>
          rw [h2] at h
          dsimp only at h
          cases h
          exact rowG_fu ho (hf (by omega)) _ _ _ a1 (by omega) h2
        | ok r =>
          rw [h2] at h
          dsimp only at h
          split at h <;> cases h

def Th (l : F) (th : Tk.Tok → Re (J × Tk.Tok)) : Prop := ∀ t p, th t = .ok p → t.end' ≤ l.length → p.2.end' ≤ l.length ∧ mu l p.2 < mu l t
theorem eats_L {l : F} {th : Tk.Tok → Re (J × Tk.Tok)} (h : Th l th) : Eats l (oneL th) := by
  intro q t p hp ht
  unfold oneL at hp
  cases h1 : th t with
  | error e => rw [h1] at hp; cases hp
  | ok r => rw [h1] at hp; cases hp; exact h t r h1 ht
theorem key_wf {l : F} {ns : List F} {t : Tk.Tok} {k : List F × Tk.Tok} (h : key l ns t = .ok k) (ht : t.end' ≤ l.length) : k.2.end' ≤ l.length ∧ mu l k.2 < mu l t := by
  unfold key at h
  split at h
  · cases h
  · rename_i h7
    split at h
    · cases h
    · cases h1 : nx l t with
      | error e => rw [h1] at h; cases h
      | ok t1 =>
        rw [h1] at h
        dsimp only at h
        obtain ⟨a1, a2⟩ := nx_wf h1 ht
        have a3 := a2 (by omega)
        split at h
        · cases h
        · rename_i h5
          cases h2 : nx l t1 with
          | error e => rw [h2] at h; cases h
          | ok t2 =>
            rw [h2] at h
            cases h
            obtain ⟨b1, b2⟩ := nx_wf h2 a1
            have b3 := b2 (by omega)
            exact ⟨b1, by dsimp only; omega⟩
theorem key_fu (l : F) (ns : List F) (t : Tk.Tok) : Fu (key l ns t) := by
  intro h
  unfold key at h
  split at h
  · cases h
  · split at h
    · cases h
    · cases h1 : nx l t with
      | error e => rw [h1] at h; obtain ⟨e1, _⟩ := nx_err h1; rw [e1] at h; cases h
      | ok t1 =>
        rw [h1] at h
        dsimp only at h
        split at h
        · cases h
        · cases h2 : nx l t1 with
          | error e => rw [h2] at h; obtain ⟨e1, _⟩ := nx_err h2; rw [e1] at h; cases h
          | ok t2 => rw [h2] at h; cases h
theorem eats_O {l : F} {th : Tk.Tok → Re (J × Tk.Tok)} (h : Th l th) : Eats l (oneO l th) := by
  intro q t p hp ht
  unfold oneO at hp
  cases h0 : key l q.1 t with
  | error e => rw [h0] at hp; cases hp
  | ok k =>
    rw [h0] at hp
    dsimp only at hp
    obtain ⟨a1, a2⟩ := key_wf h0 ht
    cases h1 : th k.2 with
    | error e => rw [h1] at hp; cases hp
    | ok r =>
      rw [h1] at hp; cases hp
      obtain ⟨b1, b2⟩ := h k.2 r h1 a1
      exact ⟨b1, by dsimp only; omega⟩
theorem fin_wf {l : F} {x : J} {t : Tk.Tok} {p : J × Tk.Tok} (h : fin l x t = .ok p) (ht : t.end' ≤ l.length) (h0 : t.kind ≠ 0) : p.2.end' ≤ l.length ∧ mu l p.2 < mu l t := by
  unfold fin at h
  cases h1 : nx l t with
  | error e => rw [h1] at h; cases h
  | ok t1 =>
    rw [h1] at h; cases h
    obtain ⟨a1, a2⟩ := nx_wf h1 ht
    exact ⟨a1, a2 h0⟩
theorem fin_fu (l : F) (x : J) (t : Tk.Tok) : Fu (fin l x t) := by
  intro h
  unfold fin at h
  cases h1 : nx l t with
  | error e => rw [h1] at h; obtain ⟨e1, _⟩ := nx_err h1; rw [e1] at h; cases h
  | ok t1 => rw [h1] at h; cases h
theorem thing_wf (l : F) : ∀ (n : Nat) (d : Int), Th l (thing n l d)
  | 0, _ => by intro t p h; cases h
  | n + 1, d => by
    intro t p h ht
    have ih := thing_wf l n (d - 1)
    rw [thing] at h
    dsimp only at h
    split at h
    · rename_i h1
      cases h2 : row l (oneL (thing n l (d - 1))) 2 d ([], []) t with
      | error e => rw [h2] at h; cases h
      | ok r =>
        rw [h2] at h
        dsimp only at h
        obtain ⟨a1, a2, a3⟩ := row_wf (eats_L ih) h2 ht (by omega)
        obtain ⟨b1, b2⟩ := fin_wf h a1 (by omega)
        exact ⟨b1, by omega⟩
    · split at h
      · rename_i h1
        cases h2 : row l (oneO l (thing n l (d - 1))) 4 d ([], []) t with
        | error e => rw [h2] at h; cases h
        | ok r =>
          rw [h2] at h
          dsimp only at h
          obtain ⟨a1, a2, a3⟩ := row_wf (eats_O ih) h2 ht (by omega)
          obtain ⟨b1, b2⟩ := fin_wf h a1 (by omega)
          exact ⟨b1, by omega⟩
      · split at h
        · exact fin_wf h ht (by omega)
        · split at h
          · exact fin_wf h ht (by omega)
          · split at h
            · exact fin_wf h ht (by omega)
            · cases h
theorem thing_fu (l : F) : ∀ (n : Nat) (d : Int) (t : Tk.Tok), d.toNat < n → t.end' ≤ l.length → Fu (thing n l d t)
  | 0, _, _, h, _ => by omega
  | n + 1, d, t, hn, ht => by
    have ih := thing_wf l n (d - 1)
    have ihf := thing_fu l n (d - 1)
    rw [thing]
    dsimp only
    split
    · have hr : Fu (row l (oneL (thing n l (d - 1))) 2 d ([], []) t) := row_fu (eats_L ih) (fun hd q t ht2 h => by
        unfold oneL at h
        cases h1 : thing n l (d - 1) t with
        | error e => rw [h1] at h; cases h; exact ihf t (by omega) ht2 h1
        | ok r => rw [h1] at h; cases h) ht
      cases h2 : row l (oneL (thing n l (d - 1))) 2 d ([], []) t with
      | error e => intro h; cases h; exact hr h2
      | ok r => exact fin_fu _ _ _
    · split
      · have hr : Fu (row l (oneO l (thing n l (d - 1))) 4 d ([], []) t) := row_fu (eats_O ih) (fun hd q t ht2 h => by
          unfold oneO at h
          cases h0 : key l q.1 t with
          | error e => rw [h0] at h; cases h; exact key_fu _ _ _ h0
          | ok k =>
            rw [h0] at h
            dsimp only at h
            cases h1 : thing n l (d - 1) k.2 with
            | error e => rw [h1] at h; cases h; exact ihf k.2 (by omega) (key_wf h0 ht2).1 h1
            | ok r => rw [h1] at h; cases h) ht
        cases h2 : row l (oneO l (thing n l (d - 1))) 4 d ([], []) t with
        | error e => intro h; cases h; exact hr h2
        | ok r => exact fin_fu _ _ _
      · split
        · exact fin_fu _ _ _
        · split
          · exact fin_fu _ _ _
          · split
            · exact fin_fu _ _ _
            · intro h; cases h

end Go.Proofs.Ythbpkmmnoeikoaa.Js

/-
  The law of XRangeAx for an iterator that asks something of the world that it is called back in (Fr): that it holds wherever the caller's own invariant does. Condition: the loop stands in no other such loop's body.
-/
namespace Go.Proofs.Ythbpkmmnoeikoaa
open Go Go.RowKit

variable {F : Fence} {n : Nat} {P : Program}
set_option linter.unusedVariables false

def SeqFr {α : Type} (F : Fence) (n : Nat) (P : Program) (g : Nat) (lb : Array Value) (encs : α → Array Value) (Kp : World → World → Prop) (Ok : List α → α → Prop)
    (St : List α → α → World → World → Prop) (En : World → World → Prop) (Fr : World → Prop) (S Sp : List α → Prop) (w : World) : Prop :=
  ∀ (l : Nat) (J : List α → World → Prop) (J1 : List α → α → World → Prop) (Jx : List α → World → Prop) (W : World), Below w.heap.size w W →
    (∀ pre A, J pre A → Fr A) → (∀ pre x A B, J pre A → Ok pre x → St pre x A B → J1 pre x B) → (∀ pre A B, J pre A → En A B → J pre B) →
    (∀ pre x W1, J1 pre x W1 → Ok pre x → YieldAt F (n - 1) P l (encs x) W1 fun e W' =>
      (e = .returned (.bool true) ∧ J (pre ++ [x]) W' ∧ Kp W1 W') ∨ (e = .returned (.bool false) ∧ Jx (pre ++ [x]) W')) →
    J [] W →
    CallsIn F n P g (#[.func (.yield l) #[] #[]] ++ lb) W fun e W' => (∃ v, e = .returned v) ∧ ((∃ xs, S xs ∧ J xs W') ∨ (∃ pre, Sp pre ∧ Jx pre W'))

theorem wpIn_rangeFunc_fr {α : Type} {g : Operand} {ps : Array Tmp} {assign body : Code} {Q : Exit → Act → World → Prop} {a : Act} {w : World}
    (hro : F.round = none) (h1 : 1 ≤ n) {gf : Nat} {lb : Array Value} (hg : a.eval g = .func (.func gf) #[] lb) (hFg : F.fn gf) (eg : ∀ args w, (callFunc gf args).run P w = .ok (.enter gf args) w)
    {encs : α → Array Value} {Kp : World → World → Prop} {Ok : List α → α → Prop} {St : List α → α → World → World → Prop} {En : World → World → Prop} {Fr : World → Prop} {S Sp : List α → Prop} {w0 : World} (hseq : SeqFr F (n - 1) P gf lb encs Kp Ok St En Fr S Sp w0)
    (hSt : ∀ pre x A B, St pre x A B → KeepsNo w.heap.size A B) (hEn : ∀ A B, En A B → KeepsNo w.heap.size A B)
    (hKt : ∀ {A B C : World}, Kp A B → Kp B C → Kp A C) (hKb : ∀ (W : World) (l : Nat) (o o' : Obj), w.heap.size ≤ l → W.heap[l]? = some o → o.isCells = false → o.isWalk = false → Kp W (W.putObj l o')) (hb0 : Below w0.heap.size w0 w) (hps : ∀ x, (encs x).size = ps.size)
    (I : List α → World → Prop) (I1 : List α → α → World → Prop) (I2 : List α → α → Act → World → Prop) (Ix : Code → List α → World → Prop) (hI : OwnFrom w.heap.size I) (hI1 : ∀ x, OwnFrom w.heap.size (fun pre => I1 pre x)) (hI2 : ∀ x a', OwnFrom w.heap.size (fun pre => I2 pre x a')) (hIx : ∀ c, OwnFrom w.heap.size (Ix c))
    (hstep : ∀ pre x A B, I pre A → Ok pre x → St pre x A B → I1 pre x B) (hend : ∀ pre A B, I pre A → En A B → I pre B) (hFr : ∀ pre A, I pre A → Fr A) (h0 : I [] w)
    (hassign : ∀ (l : Nat) (pre : List α) (x : α) (W : World) (K : Act → World → Prop), I1 pre x W → Ok pre x → (∀ a' W', KeepsFrom w.heap.size W W' → Kp W W' → I2 pre x a' W' → K a' W') →
      assign.wpIn (F.inRound l) (n - 1 - 1) P (Exit.then K (fun _ _ _ => False)) { tmps := (ps.zip (encs x)).foldl (fun t (p, v) => t.setIfInBounds p v) a.tmps, defers := [] } W)
    (hbody : ∀ (l : Nat) (pre : List α) (x : α) (a' : Act) (W : World), I2 pre x a' W → Ok pre x → body.wpIn (F.inRound l) (n - 1 - 1) P (ownPostG w.heap.size Kp I Ix (pre ++ [x]) W) a' W)
    (hdone : ∀ (D : Nat) (xs : List α) (W : World), w.heap.size ≤ D → S xs → I xs W → W.heap[D]? = some (.deferred (some [])) → Q .normal { a with defers := { target := .collected D, args := #[] } :: a.defers } W)
    (hstop : ∀ (D : Nat) (c : Code) (pre : List α) (W : World), w.heap.size ≤ D → Sp pre → Ix c pre W → W.heap[D]? = some (.deferred (some [])) → c.wpIn F n P Q { a with defers := { target := .collected D, args := #[] } :: a.defers } W) :
    (Code.rangeFunc g ps assign body).wpIn F n P Q a w := by
  refine wpIn_rangeFunc ?_
  intro fn hfn
  rw [hro]
  obtain ⟨rec, hrec⟩ : ∃ rec : LoopState → Option Code → Loop, rec = fun st pe => { state := st, pending := pe, fn, tmps := a.tmps, params := ps, assign, body, defers := w.heap.size } := ⟨_, rfl⟩
  obtain ⟨W1, hW1⟩ : ∃ W1, (w.alloc (.deferred (some []))).alloc (.loop (rec .ready none)) = W1 := ⟨_, rfl⟩
  have hL1 : W1.heap[w.heap.size + 1]? = some (.loop (rec .ready none)) := by
    rw [← hW1]; have := World.alloc_heap_new (w.alloc (.deferred (some []))) (.loop (rec .ready none)); rwa [World.size_alloc] at this
  have hK1 : W1.heap[w.heap.size]? = some (.deferred (some [])) := by
    rw [← hW1]; exact (Below.heap_alloc _ _ _ (by simp)).trans (World.alloc_heap_new w _)
  have hI1' : I [] W1 := by rw [← hW1]; exact hI.alloc _ (hI.alloc _ h0)
  have hb1 : Below w0.heap.size w0 W1 := by
    rw [← hW1]; exact hb0.trans ((((Below.refl _ w).alloc (Nat.le_refl _) _).alloc (by simp) _).mono hb0.size)
  refine ⟨w.heap.size + 1, [{ target := .collected w.heap.size, args := #[] }], W1, { target := .fn (.func gf) lb, args := #[.func (.yield (w.heap.size + 1)) #[] #[]] }, W1, gf,
    #[.func (.yield (w.heap.size + 1)) #[] #[]] ++ lb, W1, ?_, ?_, ?_, ?_, fun _ => h1, ?_⟩
  · rw [← hW1, hrec]; exact run_enterLoop_outer _ _ _ _ _
  · simp only [resolve, hg]
    simp [go_sem]
  · intro f' hf'; simp [Target.leads] at hf'; subst hf'; exact hFg
  · simp [invoke, go_sem, eg]
  · refine (hseq (w.heap.size + 1)
      (fun pre W => I pre W ∧ W.heap[w.heap.size + 1]? = some (.loop (rec .ready none)) ∧ W.heap[w.heap.size]? = some (.deferred (some [])))
      (fun pre x W => I1 pre x W ∧ W.heap[w.heap.size + 1]? = some (.loop (rec .ready none)) ∧ W.heap[w.heap.size]? = some (.deferred (some [])))
      (fun pre W => ∃ c, Ix c pre W ∧ W.heap[w.heap.size + 1]? = some (.loop (rec .done (some c))) ∧ W.heap[w.heap.size]? = some (.deferred (some [])))
      W1 hb1 (fun pre A hs => hFr pre A hs.1)
      (fun pre x A B hs hok hst => ⟨hstep pre x A B hs.1 hok hst, hSt pre x A B hst _ _ (by omega) hs.2.1 rfl, hSt pre x A B hst _ _ (Nat.le_refl _) hs.2.2 rfl⟩)
      (fun pre A B hs hst => ⟨hend pre A B hs.1 hst, hEn A B hst _ _ (by omega) hs.2.1 rfl, hEn A B hst _ _ (Nat.le_refl _) hs.2.2 rfl⟩)
      ?_ ⟨hI1', hL1, hK1⟩).mono ?_
    · rintro pre x W0 ⟨hi0, hl0, hk0⟩ hok
      have hy := run_yield (P := P) (args := encs x) hl0 (by rw [hrec]; exact hps x)
      rw [hrec] at hy
      refine ⟨fn, _, assign, body, hy, roundIn_of_wpIn hfn (hassign _ pre x W0 _ hi0 hok ?_)⟩
      intro a' W hkW hKW hi
      have hl := hkW.same _ _ (by omega) hl0 rfl
      have hk := hkW.same _ _ (Nat.le_refl _) hk0 rfl
      have hlt : w.heap.size + 1 < W.heap.size := (Array.getElem?_eq_some_iff.1 hl).1
      refine ⟨_, run_beginRound hl (by rw [hrec]), ?_⟩
      have hl2 : (W.putObj (w.heap.size + 1) (.loop { rec .ready none with state := .busy })).heap[w.heap.size + 1]? = some (.loop { rec .ready none with state := .busy }) := World.putObj_heap_same hlt
      have hk2 : (W.putObj (w.heap.size + 1) (.loop { rec .ready none with state := .busy })).heap[w.heap.size]? = some (.deferred (some [])) := (World.putObj_heap_other (by omega)).trans hk
      have hw2 : Kp W0 (W.putObj (w.heap.size + 1) (.loop { rec .ready none with state := .busy })) := hKt hKW (hKb _ _ _ _ (by omega) hl rfl rfl)
      refine wpIn_mono (hbody _ pre x _ _ ((hI2 x a').putObj (s := pre) _ hi (by omega) hl rfl) hok) ?_
      have fin : ∀ (jump : Option Code) (W3 : World), KeepsFrom w.heap.size (W.putObj (w.heap.size + 1) (.loop { rec .ready none with state := .busy })) W3 →
          (Instr.endRound (w.heap.size + 1) jump).run P W3 = .ok (.bool jump.isNone) (W3.putObj (w.heap.size + 1) (.loop (rec (if jump.isNone then .ready else .done) jump))) ∧
          W3.heap[w.heap.size + 1]? = some (.loop { rec .ready none with state := .busy }) ∧
          (W3.putObj (w.heap.size + 1) (.loop (rec (if jump.isNone then .ready else .done) jump))).heap[w.heap.size + 1]? = some (.loop (rec (if jump.isNone then .ready else .done) jump)) ∧
          (W3.putObj (w.heap.size + 1) (.loop (rec (if jump.isNone then .ready else .done) jump))).heap[w.heap.size]? = some (.deferred (some [])) := fun jump W3 hk3 => by
        have hl3 := hk3.same _ _ (by omega) hl2 rfl
        have := run_endRound (P := P) jump hl3
        rw [hrec] at this ⊢
        exact ⟨this, by rw [hrec] at hl3; exact hl3, World.putObj_heap_same (Array.getElem?_eq_some_iff.1 hl3).1, (World.putObj_heap_other (by omega)).trans (hk3.same _ _ (Nat.le_refl _) hk2 rfl)⟩
      rintro e a3 W3 hp
      cases e with
      | normal =>
        obtain ⟨hk3, hkp3, hi3⟩ := hp
        obtain ⟨hr, hl3, hl4, hk4⟩ := fin none W3 hk3
        exact ⟨_, _, hr, .inl ⟨rfl, ⟨hI.putObj _ hi3 (by omega) hl3 rfl, hl4, hk4⟩, hKt (hKt hw2 hkp3) (hKb _ _ _ _ (by omega) hl3 rfl rfl)⟩⟩
      | ret =>
        obtain ⟨hk3, hi3⟩ := hp
        obtain ⟨hr, hl3, hl4, hk4⟩ := fin (some .ret) W3 hk3
        exact ⟨_, _, hr, .inr ⟨rfl, .ret, (hIx _).putObj _ hi3 (by omega) hl3 rfl, hl4, hk4⟩⟩
      | exit id =>
        obtain ⟨hk3, hi3⟩ := hp
        obtain ⟨hr, hl3, hl4, hk4⟩ := fin (some (.exit id)) W3 hk3
        exact ⟨_, _, hr, .inr ⟨rfl, .exit id, (hIx _).putObj _ hi3 (by omega) hl3 rfl, hl4, hk4⟩⟩
      | goto t =>
        obtain ⟨hk3, hi3⟩ := hp
        obtain ⟨hr, hl3, hl4, hk4⟩ := fin (some (.goto t)) W3 hk3
        exact ⟨_, _, hr, .inr ⟨rfl, .goto t, (hIx _).putObj _ hi3 (by omega) hl3 rfl, hl4, hk4⟩⟩
      | panic ch => exact hp.elim
      | outgrown => exact hp.elim
    · rintro e W2 ⟨⟨v, rfl⟩, (⟨xs, hS, hi, hl, hk⟩ | ⟨pre, hSp, c, hi, hl, hk⟩)⟩
      · exact ⟨none, _, by have := run_endLoop (P := P) hl (by rw [hrec]; simp); rw [hrec] at this; exact this, hdone _ xs _ (Nat.le_refl _) hS (hI.putObj _ hi (by omega) hl rfl) ((World.putObj_heap_other (by omega)).trans hk)⟩
      · exact ⟨some c, _, by have := run_endLoop (P := P) hl (by rw [hrec]; simp); rw [hrec] at this; exact this, hstop _ c pre _ (Nat.le_refl _) hSp ((hIx c).putObj _ hi (by omega) hl rfl) ((World.putObj_heap_other (by omega)).trans hk)⟩


/-! ### a region within a round -/

end Go.Proofs.Ythbpkmmnoeikoaa

/-
  token.tokens: the iterator of a text's tokens hands on what 'iall' lists, and lays each one's error where it was told to. Condition: the text is shorter than 2^32 - 15 bytes.
-/
namespace Go.Proofs.Ythbpkmmnoeikoaa
open Go Go.RowKit Go.Shelf
attribute [local go_sem] Oper.semAt_some
set_option linter.unusedVariables false
set_option linter.unusedSimpArgs false

theorem tokens_any (s : ByteArray) (wp : Addr) (w : World) :
    Calls Try.prog 75 #[.string s, .pointer (some wp)] w fun e w' => e = .returned (.func (.func 98) #[] #[.pointer (some ⟨w.heap.size, 0, none⟩), .pointer (some ⟨w.heap.size + 1, 0, none⟩)]) ∧
      w' = (w.alloc (.cells #[.string s] 9)).alloc (.cells #[.pointer (some wp)] 106) := by
  go_enter Try.func75, Try.ntmps75
  go_wp2
  go_ret
  exact ⟨rfl, rfl⟩

def tokCells (t : Tk.Tok) : Array Value := #[.int .i64 (t.kind : Int), .int .i64 (t.at' : Int), .int .i64 (t.end' : Int), str t.s, .int .i64 t.n]
theorem tokV_cells (t : Tk.Tok) : tokV t = .agg (tokCells t) := rfl

/-- b is not the block of the tokens that lie in the cell Bo -/
def NotRow (Bo : Nat) (A : World) (b : Nat) : Prop := ∀ v, Boxed A Bo 57 v → v.ownBlock ≠ some b
/-- the tokens of the cell Bo lie in a block that is there -/
def FrT (Bo : Nat) (A : World) : Prop := ∃ v, Boxed A Bo 57 v ∧ ∀ b, v.ownBlock = some b → b < A.heap.size
/-- the iterator's cells, and tokens that are none of the row's, lie as they lay -/
def KpT (Bo Bs Bp Bw : Nat) (A B : World) : Prop := B.heap[Bs]? = A.heap[Bs]? ∧ B.heap[Bp]? = A.heap[Bp]? ∧ B.heap[Bw]? = A.heap[Bw]? ∧
  ∀ b c, A.heap[b]? = some (.cells c 52 (0, 0)) → NotRow Bo A b → B.heap[b]? = some (.cells c 52 (0, 0)) ∧ NotRow Bo B b
theorem KpT.trans {Bo Bs Bp Bw : Nat} {A B C : World} (h : KpT Bo Bs Bp Bw A B) (k : KpT Bo Bs Bp Bw B C) : KpT Bo Bs Bp Bw A C :=
  ⟨k.1.trans h.1, k.2.1.trans h.2.1, k.2.2.1.trans h.2.2.1, fun b c hb hn => k.2.2.2 b c (h.2.2.2 b c hb hn).1 (h.2.2.2 b c hb hn).2⟩
/-- a step of the iterator's -/
def StT (Bw : Nat) (x : Tk.Tok × Nat × Int) (A B : World) : Prop := ∃ A', Below A.heap.size A A' ∧ B = A'.setCell ⟨Bw, 0, none⟩ (.int .i64 x.2.2)

/-- at a round's head -/
def TkR (T : List (Tk.Tok × Nat × Int)) (s : ByteArray) (Bs Bp Bw : Nat) (J : List (Tk.Tok × Nat × Int) → World → Prop) (v : Value) (wr : World) : Prop :=
  ∃ (pre : List (Tk.Tok × Nat × Int)) (n i : Nat), T = pre ++ its (n + 1) s.data.toList i ∧ s.size - i < n + 1 ∧ i ≤ s.size ∧ v = .int .i64 (i : Int) ∧ J pre wr ∧
    Boxed wr Bs 9 (.string s) ∧ Boxed wr Bp 106 (.pointer (some ⟨Bw, 0, none⟩)) ∧ ∃ e, Boxed wr Bw 27 e

theorem boxed_uniq {W : World} {b : Nat} {t t' : TypeId} {v v' : Value} (h : Boxed W b t v) (h' : Boxed W b t' v') : v = v' := by
  have := (show W.heap[b]? = _ from h).symm.trans h'
  simp at this; exact this.1
theorem boxed_ne {W : World} {b b' : Nat} {t t' : TypeId} {v v' : Value} (h : Boxed W b t v) (h' : Boxed W b' t' v') (ht : t ≠ t') : b ≠ b' := by
  rintro rfl
  have := (show W.heap[b]? = _ from h).symm.trans h'
  simp at this; exact ht this.2

theorem fresh_notRow {Bo Bw : Nat} {wr w1 : World} {u : Value} {o : Obj} (hF : FrT Bo wr) (hb : Below wr.heap.size wr w1) {e : Value} (he : Boxed wr Bw 27 e) :
    NotRow Bo ((w1.alloc o).setCell ⟨Bw, 0, none⟩ u) w1.heap.size := by
  obtain ⟨v, hv, hlt⟩ := hF
  have hs := hb.size
  have h1 : Boxed w1 Bo 57 v := (hb.block Bo hv.lt).trans hv
  have h2 : Boxed ((w1.alloc o).setCell ⟨Bw, 0, none⟩ u) Bo 57 v := (h1.alloc o).other (boxed_ne he hv (by decide)).symm _
  intro v' hv' e'
  obtain rfl := boxed_uniq h2 hv'
  have := hlt _ e'
  omega

set_option maxRecDepth 100000 in
set_option maxHeartbeats 4000000 in
theorem toks1_in (n l Bo Bs Bp Bw : Nat) (s : ByteArray) (hs : s.size ≤ 4294967280) (T : List (Tk.Tok × Nat × Int)) (hT : T = its (s.size + 1) s.data.toList 0) (J : List (Tk.Tok × Nat × Int) → World → Prop) (J1 : List (Tk.Tok × Nat × Int) → (Tk.Tok × Nat × Int) → World → Prop) (Jx : List (Tk.Tok × Nat × Int) → World → Prop)
    (hF : ∀ pre A, J pre A → FrT Bo A)
    (hstep : ∀ pre x A B, J pre A → pre ++ [x] <+: T → StT Bw x A B → J1 pre x B)
    (hY : ∀ pre x W1, J1 pre x W1 → pre ++ [x] <+: T → YieldAt Fence.wide (n - 1) Try.prog l #[.int .i64 (x.2.1 : Int), tokV x.1] W1 fun e W' =>
      (e = .returned (.bool true) ∧ J (pre ++ [x]) W' ∧ KpT Bo Bs Bp Bw W1 W') ∨ (e = .returned (.bool false) ∧ Jx (pre ++ [x]) W'))
    (W : World) (hB : Boxed W Bs 9 (.string s)) (hP : Boxed W Bp 106 (.pointer (some ⟨Bw, 0, none⟩))) (hE : ∃ e, Boxed W Bw 27 e) (h0 : J [] W) :
    CallsIn Fence.wide n Try.prog 98 #[.func (.yield l) #[] #[], .pointer (some ⟨Bs, 0, none⟩), .pointer (some ⟨Bp, 0, none⟩)] W fun e W' => (∃ v, e = .returned v) ∧
      ((∃ ys, ys = T ∧ J ys W') ∨ (∃ pre, pre <+: T ∧ Jx pre W')) := by
  refine callsIn_of_wp Try.func98 rfl trivial ?_ rfl
  simp only [Try.ntmps98, List.size_toArray, List.length_cons, List.length_nil, Nat.reduceAdd, Nat.reduceSub, Array.replicate_succ, Array.replicate_zero, List.push_toArray, List.append_toArray, List.nil_append, List.cons_append]
  gi_wp2
  gi_loopw [4] (TkR T s Bs Bp Bw J) (fun v wr => s.size - (intOf v).toNat)
  case atStart =>
    exact ⟨[], s.size, 0, hT, by omega, by omega, rfl, h0, hB, hP, hE⟩
  case round =>
    obtain ⟨pre, m, i, hx, hm, hi, rfl, hJ, hb, hp, er, he⟩ := hrel
    have hc := hb.cell
    have hcp := hp.cell
    have hna := next_pos s i wr hs hi
    have hok := next_ok s.data.toList i (by rw [len_data]; exact hi)
    rw [its_succ] at hx
    generalize Tk.next s.data.toList i = x at *
    have hpre : pre ++ [x] <+: T := by rw [hx]; exact ⟨_, by simp; rfl⟩
    have q2 := hok.hi
    rw [len_data] at q2
    have q3 := hok.go
    have HX := Lib.hid hx
    have HF := hF pre wr hJ
    have HS := Lib.hid (fun B hst => hstep pre x wr B hJ hpre hst)
    have HYY := Lib.hid (fun W1 h1 => hY pre x W1 h1 hpre)
    clear hx hok hF hstep
    unfold nextV tokV at hna
    unfold tokV at HYY
    gi_wp2_with (refine ⟨trivial, fun h => (by cases h), ?_⟩; refine (callsIn_wide.2 hna).mono ?_; rintro e w1 ⟨rfl, hb1⟩; have hp1 : Boxed w1 Bp 106 _ := Eq.trans (hb1.block Bp hp.lt) hp; have he1 : Boxed w1 Bw 27 _ := Eq.trans (hb1.block Bw he.lt) he; have hp2 := Boxed.alloc hp1 (.cells #[.int .i64 (x.1.kind : Int), .int .i64 (x.1.at' : Int), .int .i64 (x.1.end' : Int), .string (bs x.1.s), .int .i64 x.1.n] 52); have he2 := Boxed.alloc he1 (.cells #[.int .i64 (x.1.kind : Int), .int .i64 (x.1.at' : Int), .int .i64 (x.1.end' : Int), .string (bs x.1.s), .int .i64 x.1.n] 52); have hcp1 := Boxed.cell hp2; have hce1 := Boxed.cell he2; have hfe1 := Boxed.frozen he2; have hne : Bw ≠ w1.heap.size := (by have := he1.lt; omega); have ht3 := row_other (heap_alloc_new w1 (.cells #[.int .i64 (x.1.kind : Int), .int .i64 (x.1.at' : Int), .int .i64 (x.1.end' : Int), .string (bs x.1.s), .int .i64 x.1.n] 52)) hne 0 (.int .i64 x.2.2); obtain ⟨z0, z1, z2, z3, z4⟩ := tok_cells ht3; obtain ⟨fn, tmps, assign, body, hy, hR⟩ := HYY.out _ (HS.out _ ⟨_, hb1.alloc hb1.size (.cells #[.int .i64 (x.1.kind : Int), .int .i64 (x.1.at' : Int), .int .i64 (x.1.end' : Int), .string (bs x.1.s), .int .i64 x.1.n] 52), rfl⟩))
    refine ⟨fun h => (by cases h), ?_⟩
    refine hR.mono ?_
    rintro e W3 (⟨rfl, hJ3, hk3⟩ | ⟨rfl, hJx3⟩)
    · have hnr := fresh_notRow (u := .int .i64 x.2.2) (o := (.cells #[.int .i64 (x.1.kind : Int), .int .i64 (x.1.at' : Int), .int .i64 (x.1.end' : Int), .string (bs x.1.s), .int .i64 x.1.n] 52)) HF hb1 he
      obtain ⟨k1, k2, k3, k4⟩ := hk3
      obtain ⟨ht4, _⟩ := k4 _ _ ht3 hnr
      obtain ⟨y0, y1, y2, y3, y4⟩ := tok_cells ht4
      have hs3 : Boxed W3 Bs 9 (.string s) := k1.trans ((Boxed.alloc (show Boxed w1 Bs 9 (.string s) from (hb1.block Bs hb.lt).trans hb) (.cells #[.int .i64 (x.1.kind : Int), .int .i64 (x.1.at' : Int), .int .i64 (x.1.end' : Int), .string (bs x.1.s), .int .i64 x.1.n] 52)).other (boxed_ne he hb (by decide)).symm _)
      have hp3 : Boxed W3 Bp 106 (.pointer (some ⟨Bw, 0, none⟩)) := k2.trans (hp2.other (boxed_ne he hp (by decide)).symm _)
      have he3 : Boxed W3 Bw 27 (.int .i64 x.2.2) := k3.trans (he2.set _)
      clear z0 z1 z2 z3 z4 hR hy k1 k2 k3 k4 hcp1 hce1 hfe1 hna HYY HS HF
      by_cases h1 : x.2.2 = 0
      · have t1 : (x.2.2 == 0) = true := beq_iff_eq.2 h1
        have t1b : (x.2.2 != 0) = false := by simp [h1]
        by_cases h2 : x.1.kind = 0
        · have t2 : ((x.1.kind : Int) == 0) = true := beq_iff_eq.2 (by omega)
          have he : Hid (T = pre ++ [x]) := by unfold Hid; rw [HX.out, if_pos (.inr h2)]
          clear HX h1 h2
          gi_wp2
          refine bodyPost_ret (results_none rfl _ _ _) rfl ?_
          exact ⟨⟨_, rfl⟩, .inl ⟨_, he.out.symm, hJ3⟩⟩
        · have t2 : ((x.1.kind : Int) == 0) = false := beq_eq_false_iff_ne.2 (by omega)
          have hgo := q3 h1 h2
          have hx2 : Hid (T = (pre ++ [x]) ++ its (m - 1 + 1) s.data.toList x.2.1) := by
            unfold Hid
            rw [HX.out, if_neg (by omega), Nat.sub_add_cancel (by omega)]; simp
          clear HX h1 h2 q3
          gi_wp2
          go_roundw
          case rel => exact ⟨pre ++ [x], m - 1, x.2.1, hx2.out, by omega, q2, rfl, hJ3, hs3, hp3, _, he3⟩
          case measure => simp [intOf]; omega
      · have t1 : (x.2.2 == 0) = false := beq_eq_false_iff_ne.2 h1
        have t1b : (x.2.2 != 0) = true := by simp [h1]
        have he : Hid (T = pre ++ [x]) := by unfold Hid; rw [HX.out, if_pos (.inl h1)]
        clear HX h1
        gi_wp2
        all_goals first
          | (refine bodyPost_ret (results_none rfl _ _ _) rfl ?_; exact ⟨⟨_, rfl⟩, .inl ⟨_, he.out.symm, hJ3⟩⟩)
          | (rename_i hz _; exact absurd hz (by unfold undef; simp))
          | (rename_i hz; exact absurd hz (by unfold undef; simp))
    · gi_wp2
      all_goals first
        | (refine bodyPost_ret (results_none rfl _ _ _) rfl ?_; exact ⟨⟨_, rfl⟩, .inr ⟨_, hpre, hJx3⟩⟩)
        | (rename_i hz _; exact absurd hz (by unfold undef; simp))
        | (rename_i hz; exact absurd hz (by unfold undef; simp))

/-- tokens(s, wrong) hands back a value that hands on s's tokens -/
theorem toks_seq (n Bo Bs Bp Bw : Nat) (s : ByteArray) (hs : s.size ≤ 4294967280) (T : List (Tk.Tok × Nat × Int)) (hT : T = its (s.size + 1) s.data.toList 0) (w : World) (hB : Boxed w Bs 9 (.string s)) (hP : Boxed w Bp 106 (.pointer (some ⟨Bw, 0, none⟩))) (e : Value) (hE : Boxed w Bw 27 e) :
    SeqFr Fence.wide n Try.prog 98 #[.pointer (some ⟨Bs, 0, none⟩), .pointer (some ⟨Bp, 0, none⟩)] (fun x : Tk.Tok × Nat × Int => #[.int .i64 (x.2.1 : Int), tokV x.1]) (KpT Bo Bs Bp Bw) (fun pre x => pre ++ [x] <+: T)
      (fun _ x A B => StT Bw x A B) (fun A B => A = B) (FrT Bo) (fun ys => ys = T) (fun pre => pre <+: T) w :=
  fun l J J1 Jx W hW hF hst _ hY h0 => toks1_in n l Bo Bs Bp Bw s hs T hT J J1 Jx hF hst hY W ((hW.block Bs hB.lt).trans hB) ((hW.block Bp hP.lt).trans hP) ⟨e, (hW.block Bw hE.lt).trans hE⟩ h0

end Go.Proofs.Ythbpkmmnoeikoaa

/-
  The law of XRange for a loop whose variable lies in a cell of its own (each round's assign code lays one), and a region that draws its order within a round, over the plain laws of such a region. Condition: the wide fence; the region defers nothing.
-/
namespace Go.Proofs.Ythbpkmmnoeikoaa
open Go Go.RowKit

variable {F : Fence} {n : Nat} {P : Program}
set_option linter.unusedVariables false

theorem wpIn_rangeFunc_ax {α : Type} {g : Operand} {ps : Array Tmp} {assign body : Code} {Q : Exit → Act → World → Prop} {a : Act} {w : World}
    (hro : F.round = none) (h1 : 1 ≤ n) {gf : Nat} {lb : Array Value} (hg : a.eval g = .func (.func gf) #[] lb) (hFg : F.fn gf) (eg : ∀ args w, (callFunc gf args).run P w = .ok (.enter gf args) w)
    {encs : α → Array Value} {Kp : World → World → Prop} {Ok : List α → α → Prop} {St : List α → α → World → World → Prop} {En : World → World → Prop} {S Sp : List α → Prop} {w0 : World} (hseq : SeqOf F (n - 1) P gf lb encs Kp Ok St En S Sp w0)
    (hSt : ∀ pre x A B, St pre x A B → KeepsNo w.heap.size A B) (hEn : ∀ A B, En A B → KeepsNo w.heap.size A B)
    (hKt : ∀ {A B C : World}, Kp A B → Kp B C → Kp A C) (hKb : ∀ (W : World) (l : Nat) (o o' : Obj), w.heap.size ≤ l → W.heap[l]? = some o → o.isCells = false → o.isWalk = false → Kp W (W.putObj l o')) (hb0 : Below w0.heap.size w0 w) (hps : ∀ x, (encs x).size = ps.size)
    (I : List α → World → Prop) (I1 : List α → α → World → Prop) (I2 : List α → α → Act → World → Prop) (Ix : Code → List α → World → Prop) (hI : OwnFrom w.heap.size I) (hI1 : ∀ x, OwnFrom w.heap.size (fun pre => I1 pre x)) (hI2 : ∀ x a', OwnFrom w.heap.size (fun pre => I2 pre x a')) (hIx : ∀ c, OwnFrom w.heap.size (Ix c))
    (hstep : ∀ pre x A B, I pre A → Ok pre x → St pre x A B → I1 pre x B) (hend : ∀ pre A B, I pre A → En A B → I pre B) (h0 : I [] w)
    (hassign : ∀ (l : Nat) (pre : List α) (x : α) (W : World) (K : Act → World → Prop), I1 pre x W → Ok pre x → (∀ a' W', KeepsFrom w.heap.size W W' → Kp W W' → I2 pre x a' W' → K a' W') →
      assign.wpIn (F.inRound l) (n - 1 - 1) P (Exit.then K (fun _ _ _ => False)) { tmps := (ps.zip (encs x)).foldl (fun t (p, v) => t.setIfInBounds p v) a.tmps, defers := [] } W)
    (hbody : ∀ (l : Nat) (pre : List α) (x : α) (a' : Act) (W : World), I2 pre x a' W → Ok pre x → body.wpIn (F.inRound l) (n - 1 - 1) P (ownPostG w.heap.size Kp I Ix (pre ++ [x]) W) a' W)
    (hdone : ∀ (D : Nat) (xs : List α) (W : World), w.heap.size ≤ D → S xs → I xs W → W.heap[D]? = some (.deferred (some [])) → Q .normal { a with defers := { target := .collected D, args := #[] } :: a.defers } W)
    (hstop : ∀ (D : Nat) (c : Code) (pre : List α) (W : World), w.heap.size ≤ D → Sp pre → Ix c pre W → W.heap[D]? = some (.deferred (some [])) → c.wpIn F n P Q { a with defers := { target := .collected D, args := #[] } :: a.defers } W) :
    (Code.rangeFunc g ps assign body).wpIn F n P Q a w := by
  refine wpIn_rangeFunc ?_
  intro fn hfn
  rw [hro]
  obtain ⟨rec, hrec⟩ : ∃ rec : LoopState → Option Code → Loop, rec = fun st pe => { state := st, pending := pe, fn, tmps := a.tmps, params := ps, assign, body, defers := w.heap.size } := ⟨_, rfl⟩
  obtain ⟨W1, hW1⟩ : ∃ W1, (w.alloc (.deferred (some []))).alloc (.loop (rec .ready none)) = W1 := ⟨_, rfl⟩
  have hL1 : W1.heap[w.heap.size + 1]? = some (.loop (rec .ready none)) := by
    rw [← hW1]; have := World.alloc_heap_new (w.alloc (.deferred (some []))) (.loop (rec .ready none)); rwa [World.size_alloc] at this
  have hK1 : W1.heap[w.heap.size]? = some (.deferred (some [])) := by
    rw [← hW1]; exact (Below.heap_alloc _ _ _ (by simp)).trans (World.alloc_heap_new w _)
  have hI1' : I [] W1 := by rw [← hW1]; exact hI.alloc _ (hI.alloc _ h0)
  have hb1 : Below w0.heap.size w0 W1 := by
    rw [← hW1]; exact hb0.trans ((((Below.refl _ w).alloc (Nat.le_refl _) _).alloc (by simp) _).mono hb0.size)
  refine ⟨w.heap.size + 1, [{ target := .collected w.heap.size, args := #[] }], W1, { target := .fn (.func gf) lb, args := #[.func (.yield (w.heap.size + 1)) #[] #[]] }, W1, gf,
    #[.func (.yield (w.heap.size + 1)) #[] #[]] ++ lb, W1, ?_, ?_, ?_, ?_, fun _ => h1, ?_⟩
  · rw [← hW1, hrec]; exact run_enterLoop_outer _ _ _ _ _
  · simp only [resolve, hg]
    simp [go_sem]
  · intro f' hf'; simp [Target.leads] at hf'; subst hf'; exact hFg
  · simp [invoke, go_sem, eg]
  · refine (hseq (w.heap.size + 1)
      (fun pre W => I pre W ∧ W.heap[w.heap.size + 1]? = some (.loop (rec .ready none)) ∧ W.heap[w.heap.size]? = some (.deferred (some [])))
      (fun pre x W => I1 pre x W ∧ W.heap[w.heap.size + 1]? = some (.loop (rec .ready none)) ∧ W.heap[w.heap.size]? = some (.deferred (some [])))
      (fun pre W => ∃ c, Ix c pre W ∧ W.heap[w.heap.size + 1]? = some (.loop (rec .done (some c))) ∧ W.heap[w.heap.size]? = some (.deferred (some [])))
      W1 hb1
      (fun pre x A B hs hok hst => ⟨hstep pre x A B hs.1 hok hst, hSt pre x A B hst _ _ (by omega) hs.2.1 rfl, hSt pre x A B hst _ _ (Nat.le_refl _) hs.2.2 rfl⟩)
      (fun pre A B hs hst => ⟨hend pre A B hs.1 hst, hEn A B hst _ _ (by omega) hs.2.1 rfl, hEn A B hst _ _ (Nat.le_refl _) hs.2.2 rfl⟩)
      ?_ ⟨hI1', hL1, hK1⟩).mono ?_
    · rintro pre x W0 ⟨hi0, hl0, hk0⟩ hok
      have hy := run_yield (P := P) (args := encs x) hl0 (by rw [hrec]; exact hps x)
      rw [hrec] at hy
      refine ⟨fn, _, assign, body, hy, roundIn_of_wpIn hfn (hassign _ pre x W0 _ hi0 hok ?_)⟩
      intro a' W hkW hKW hi
      have hl := hkW.same _ _ (by omega) hl0 rfl
      have hk := hkW.same _ _ (Nat.le_refl _) hk0 rfl
      have hlt : w.heap.size + 1 < W.heap.size := (Array.getElem?_eq_some_iff.1 hl).1
      refine ⟨_, run_beginRound hl (by rw [hrec]), ?_⟩
      have hl2 : (W.putObj (w.heap.size + 1) (.loop { rec .ready none with state := .busy })).heap[w.heap.size + 1]? = some (.loop { rec .ready none with state := .busy }) := World.putObj_heap_same hlt
      have hk2 : (W.putObj (w.heap.size + 1) (.loop { rec .ready none with state := .busy })).heap[w.heap.size]? = some (.deferred (some [])) := (World.putObj_heap_other (by omega)).trans hk
      have hw2 : Kp W0 (W.putObj (w.heap.size + 1) (.loop { rec .ready none with state := .busy })) := hKt hKW (hKb _ _ _ _ (by omega) hl rfl rfl)
      refine wpIn_mono (hbody _ pre x _ _ ((hI2 x a').putObj (s := pre) _ hi (by omega) hl rfl) hok) ?_
      have fin : ∀ (jump : Option Code) (W3 : World), KeepsFrom w.heap.size (W.putObj (w.heap.size + 1) (.loop { rec .ready none with state := .busy })) W3 →
          (Instr.endRound (w.heap.size + 1) jump).run P W3 = .ok (.bool jump.isNone) (W3.putObj (w.heap.size + 1) (.loop (rec (if jump.isNone then .ready else .done) jump))) ∧
          W3.heap[w.heap.size + 1]? = some (.loop { rec .ready none with state := .busy }) ∧
          (W3.putObj (w.heap.size + 1) (.loop (rec (if jump.isNone then .ready else .done) jump))).heap[w.heap.size + 1]? = some (.loop (rec (if jump.isNone then .ready else .done) jump)) ∧
          (W3.putObj (w.heap.size + 1) (.loop (rec (if jump.isNone then .ready else .done) jump))).heap[w.heap.size]? = some (.deferred (some [])) := fun jump W3 hk3 => by
        have hl3 := hk3.same _ _ (by omega) hl2 rfl
        have := run_endRound (P := P) jump hl3
        rw [hrec] at this ⊢
        exact ⟨this, by rw [hrec] at hl3; exact hl3, World.putObj_heap_same (Array.getElem?_eq_some_iff.1 hl3).1, (World.putObj_heap_other (by omega)).trans (hk3.same _ _ (Nat.le_refl _) hk2 rfl)⟩
      rintro e a3 W3 hp
      cases e with
      | normal =>
        obtain ⟨hk3, hkp3, hi3⟩ := hp
        obtain ⟨hr, hl3, hl4, hk4⟩ := fin none W3 hk3
        exact ⟨_, _, hr, .inl ⟨rfl, ⟨hI.putObj _ hi3 (by omega) hl3 rfl, hl4, hk4⟩, hKt (hKt hw2 hkp3) (hKb _ _ _ _ (by omega) hl3 rfl rfl)⟩⟩
      | ret =>
        obtain ⟨hk3, hi3⟩ := hp
        obtain ⟨hr, hl3, hl4, hk4⟩ := fin (some .ret) W3 hk3
        exact ⟨_, _, hr, .inr ⟨rfl, .ret, (hIx _).putObj _ hi3 (by omega) hl3 rfl, hl4, hk4⟩⟩
      | exit id =>
        obtain ⟨hk3, hi3⟩ := hp
        obtain ⟨hr, hl3, hl4, hk4⟩ := fin (some (.exit id)) W3 hk3
        exact ⟨_, _, hr, .inr ⟨rfl, .exit id, (hIx _).putObj _ hi3 (by omega) hl3 rfl, hl4, hk4⟩⟩
      | goto t =>
        obtain ⟨hk3, hi3⟩ := hp
        obtain ⟨hr, hl3, hl4, hk4⟩ := fin (some (.goto t)) W3 hk3
        exact ⟨_, _, hr, .inr ⟨rfl, .goto t, (hIx _).putObj _ hi3 (by omega) hl3 rfl, hl4, hk4⟩⟩
      | panic ch => exact hp.elim
      | outgrown => exact hp.elim
    · rintro e W2 ⟨⟨v, rfl⟩, (⟨xs, hS, hi, hl, hk⟩ | ⟨pre, hSp, c, hi, hl, hk⟩)⟩
      · exact ⟨none, _, by have := run_endLoop (P := P) hl (by rw [hrec]; simp); rw [hrec] at this; exact this, hdone _ xs _ (Nat.le_refl _) hS (hI.putObj _ hi (by omega) hl rfl) ((World.putObj_heap_other (by omega)).trans hk)⟩
      · exact ⟨some c, _, by have := run_endLoop (P := P) hl (by rw [hrec]; simp); rw [hrec] at this; exact this, hstop _ c pre _ (Nat.le_refl _) hSp ((hIx c).putObj _ hi (by omega) hl rfl) ((World.putObj_heap_other (by omega)).trans hk)⟩


/-! ### a region within a round -/
theorem oper_round {l n : Nat} {P : Program} {o : Oper} {a : Act} {w : World} {K : Act → World → Prop} {Q : Exit → Act → World → Prop} (hd : ∀ c, o.op ≠ .defer c)
    (h : o.wp P a w K Q) : o.wpIn (Fence.wide.inRound l) n P a w K Q := by
  refine ⟨fun _ _ => trivial, ?_⟩
  have he : Oper.semAt (Fence.wide.inRound l).round a.eval o = execOp a.eval o := Oper.semAt_eq _ _ _ hd
  rw [he]
  unfold Oper.wp at h
  generalize (execOp a.eval o).run P w = r at h ⊢
  rcases r with ⟨nx, W⟩ | ⟨st, W⟩
  · cases nx <;> first
      | exact h
      | exact h.elim
      | exact ⟨fun h => (by cases h), callsIn_wide.2 h⟩
      | exact ⟨fun h => (by cases h), fun c cs _ => let ⟨v, w', r, s⟩ := h c cs; ⟨v, w', r, stepsIn_wide.2 s⟩⟩
  · cases st <;> first | exact h | exact h.elim

theorem wpAny_round {l n : Nat} {P : Program} {md : Region.Mode} {ops : Array Oper} {Q : Exit → Act → World → Prop} (hL : ¬ LetsOut Q) (hd : ∀ (i : Nat) (o : Oper), ops[i]? = some o → ∀ c, o.op ≠ .defer c) :
    ∀ (fuel : Nat) (listed : Array Bool) (a : Act) (w : World), wpAny P md ops Q fuel listed a w → wpAnyIn (Fence.wide.inRound l) n P md ops Q fuel listed a w
  | 0, _, _, _, h => h
  | fuel + 1, listed, a, w, h => ⟨h.1, fun i hi => by
      have h2 := h.2 i hi
      unfold wpOp at h2
      unfold wpOpIn
      split
      · rename_i he
        rw [he] at h2
        exact wpAny_round hL hd fuel _ _ _ h2
      · rename_i o he
        rw [he] at h2
        simp only at h2
        split
        · rename_i hw
          rw [if_pos hw] at h2
          rcases h2 with h2 | h2
          · refine oper_round (hd i o he) (Oper.wp_mono (fun a w => wpAny_round hL hd fuel _ a w) h2)
          · exact absurd h2.2 hL
        · rename_i hw
          rw [if_neg hw] at h2
          exact ⟨fun _ _ => trivial, wpAny_round hL hd fuel _ _ _ h2⟩⟩

/-- a region that draws, within a round, by the plain laws -/
theorem wpIn_round_held {l n : Nat} {P : Program} {id : Nat} {ops : Array Oper} {Q : Exit → Act → World → Prop} {a : Act} {w : World} (S : World → Prop) (hm : P.follows .mixedOrders = true) (hL : ¬ LetsOut Q)
    (hd : ops.all (fun o => match o.op with | .defer _ => false | _ => true) = true)
    (h : wpAnyH P .any ops Q S ops.size (Array.replicate ops.size false) a w.drew) : (Code.region id ops true).wpIn (Fence.wide.inRound l) n P Q a w := by
  refine wpIn_region_any hm (wpAny_round hL ?_ _ _ _ _ (wpAny_of_held _ _ _ _ h))
  intro i o ho c e
  have := Array.all_eq_true.1 hd i (Array.getElem?_eq_some_iff.1 ho).1
  rw [(Array.getElem?_eq_some_iff.1 ho).2, e] at this
  cases this

end Go.Proofs.Ythbpkmmnoeikoaa

/-
  token.All: a text's tokens, the place up to which they stand, the error (toks). Condition: the text is shorter than 2^32 - 15 bytes.
-/
namespace Go.Proofs.Ythbpkmmnoeikoaa
open Go Go.RowKit Go.Shelf
attribute [local go_sem] Oper.semAt_some
set_option linter.unusedVariables false
set_option linter.unusedSimpArgs false

/-- every block of cells lies as it lay -/
def CKt (W W' : World) : Prop := ∀ (k : Nat) (o : Obj), W.heap[k]? = some o → o.isCells = true → W'.heap[k]? = some o
theorem CKt.grown {W W' : World} {row : Option Nat} (hg : W.grownBy W' row) (hr : ∀ r, row = some r → ∃ o : Obj, W.heap[r]? = some o ∧ o.isCells = false) : CKt W W' := fun k o ho hc =>
  (hg.block k (Array.getElem?_eq_some_iff.1 ho).1 (fun e => by obtain ⟨o', h1, h2⟩ := hr k e.symm; rw [ho] at h1; cases h1; rw [hc] at h2; cases h2)).trans ho
theorem CKt.below {W W' : World} (h : Below W.heap.size W W') : CKt W W' := fun k o ho _ => (h.block k (Array.getElem?_eq_some_iff.1 ho).1).trans ho
theorem CKt.boxed {W W' : World} {b : Nat} {t : TypeId} {v : Value} (h : CKt W W') (hb : Boxed W b t v) : Boxed W' b t v := h b _ hb rfl
theorem CKt.owns {W W' : World} {base size n : Nat} {e : TypeId} {v : Value} {xs : List Value} (h : CKt W W') (ho : W.ownsRow base e size v n xs) : W'.ownsRow base e size v n xs :=
  ⟨ho.1, ho.2.imp id (fun ⟨g, cap, cur, e1, e2, e3, rest⟩ => ⟨g, cap, cur, e1, e2, h g _ e3 rfl, rest⟩)⟩
theorem ckt_putObj {W : World} {D : Nat} {o : Obj} (o' : Obj) (h : W.heap[D]? = some o) (hc : o.isCells = false) : CKt W (W.putObj D o') := CKt.grown (grownBy_putObj' W D o') (fun r e => by cases e; exact ⟨o, h, hc⟩)

/-- the cells of a row of tokens -/
def tcells (ts : List Tk.Tok) : List Value := (ts.map (fun t => (tokCells t).toList)).flatten
theorem tcells_len (ts : List Tk.Tok) : (tcells ts).length = ts.length * 5 := by
  induction ts with
  | nil => rfl
  | cons t ts ih =>
    have : (tokCells t).toList.length = 5 := rfl
    simp only [tcells, List.map_cons, List.flatten_cons, List.length_append, List.length_cons] at ih ⊢
    omega
theorem tcells_snoc (ts : List Tk.Tok) (t : Tk.Tok) : tcells (ts ++ [t]) = tcells ts ++ (tokCells t).toList := by simp [tcells]

/-- between two rounds; e: what the error's cell holds -/
structure TaI (n₀ : Nat) (w0 : World) (pre : List (Tk.Tok × Nat × Int)) (e : Int) (W : World) : Prop where
  row : ∃ v, Boxed W n₀ 57 v ∧ W.ownsRow (n₀ + 5) 52 5 v (good pre).length (tcells (good pre))
  err : Boxed W (n₀ + 1) 27 (.int .i64 e)
  fin : Boxed W (n₀ + 2) 3 (.int .i64 (iend pre : Int))
  below : Below n₀ w0 W
  size : n₀ + 5 ≤ W.heap.size
section
variable {n₀ : Nat} {w0 W W' : World} {pre : List (Tk.Tok × Nat × Int)} {e : Int}
theorem TaI.ck (h : TaI n₀ w0 pre e W) (hc : CKt W W') (hb : Below n₀ w0 W') (hs : W.heap.size ≤ W'.heap.size) : TaI n₀ w0 pre e W' := by
  obtain ⟨v, h1, h2⟩ := h.row
  exact ⟨⟨v, hc.boxed h1, hc.owns h2⟩, hc.boxed h.err, hc.boxed h.fin, hb, Nat.le_trans h.size hs⟩
theorem TaI.own {B : Nat} (f : List (Tk.Tok × Nat × Int) → Int) (h0 : n₀ ≤ w0.heap.size) (hB : n₀ ≤ B) : OwnFrom B (fun pre => TaI n₀ w0 pre (f pre)) := by
  intro pre W W' row h hg hr
  exact h.ck (CKt.grown hg (fun r e => (hr r e).2)) (ownFrom_below h0 hB () W W' row h.below hg hr) hg.size
theorem TaI.fr (h : TaI n₀ w0 pre e W) : FrT n₀ W := by
  obtain ⟨v, h1, h2⟩ := h.row
  exact ⟨v, h1, fun b hb => (h2.lt b hb).2⟩
theorem TaI.step {x : Tk.Tok × Nat × Int} (h : TaI n₀ w0 pre e W) (hs : StT (n₀ + 1) x W W') : TaI n₀ w0 pre x.2.2 W' := by
  obtain ⟨A, hA, rfl⟩ := hs
  have h' := h.ck (CKt.below hA) (h.below.trans (hA.mono (Nat.le_trans (Nat.le_add_right _ 5) h.size))) hA.size
  obtain ⟨v, h1, h2⟩ := h'.row
  refine ⟨⟨v, h1.other (boxed_ne h'.err h1 (by decide)).symm _, h2.kept (grownBy_setCell' A (n₀ + 1) _) ?_⟩, h'.err.set _, h'.fin.other (by omega) _, h'.below.setCell (p := ⟨n₀ + 1, 0, none⟩) (show n₀ ≤ n₀ + 1 by omega) _, ?_⟩
  · cases hv : v.ownBlock with
    | none => exact .inl rfl
    | some g => exact .inr (fun e => by cases e; have := (h2.lt _ hv).1; omega)
  · have := h'.size; simpa [World.setCell] using this
/-- a round's end, of a token that is one -/
theorem TaI.put {x : Tk.Tok × Nat × Int} {g cap : Nat} {v : Value} {tmp : Obj} (h : TaI n₀ w0 pre x.2.2 W) (hv : Boxed W n₀ 57 v) (hx : x.2.2 = 0)
    (hown : W'.ownsRow (n₀ + 5) 52 5 (.slice (some ⟨g, 0, none⟩) ((good pre).length + 1) cap) ((good pre).length + 1) (tcells (good pre) ++ (tokCells x.1).toList))
    (hgrow : ((W.setCell ⟨n₀ + 2, 0, none⟩ (.int .i64 (x.2.1 : Int))).alloc tmp).grownBy W' v.ownBlock) (hg : v.ownBlock = some g ∨ g = W.heap.size + 1) (h0 : n₀ ≤ w0.heap.size) :
    Boxed W' n₀ 57 v ∧ TaI n₀ w0 (pre ++ [x]) x.2.2 (W'.setCell ⟨n₀, 0, none⟩ (.slice (some ⟨g, 0, none⟩) ((good pre).length + 1) cap)) ∧ KeepsOthers W (W'.setCell ⟨n₀, 0, none⟩ (.slice (some ⟨g, 0, none⟩) ((good pre).length + 1) cap)) ∧
    KpT n₀ (n₀ + 3) (n₀ + 4) (n₀ + 1) W (W'.setCell ⟨n₀, 0, none⟩ (.slice (some ⟨g, 0, none⟩) ((good pre).length + 1) cap)) := by
  obtain ⟨v', hv', hrow⟩ := h.row
  obtain rfl := boxed_uniq hv hv'
  have hlow : ∀ k, v.ownBlock = some k → n₀ + 5 ≤ k ∧ k < W.heap.size := hrow.lt
  have hsz := h.size
  have hsz1 : (W.setCell ⟨n₀ + 2, 0, none⟩ (.int .i64 (x.2.1 : Int))).heap.size = W.heap.size := by simp [World.setCell]
  have hgs := hgrow.size
  rw [World.size_alloc, hsz1] at hgs
  have hne : ∀ k, k < n₀ + 5 → v.ownBlock ≠ some k := fun k hk e => by have := (hlow k e).1; omega
  -- a block of W that is neither the end's cell nor the row
  have keep : ∀ (k : Nat) (o : Obj), W.heap[k]? = some o → k ≠ n₀ + 2 → v.ownBlock ≠ some k → W'.heap[k]? = some o := fun k o hk h2 hr => by
    have hlt := (Array.getElem?_eq_some_iff.1 hk).1
    refine (hgrow.block k (by rw [World.size_alloc, hsz1]; omega) (fun e => hr e.symm)).trans ?_
    exact (Below.heap_alloc _ _ _ (by rw [hsz1]; exact hlt)).trans ((grownBy_setCell' W (n₀ + 2) _).block k hlt (fun e => h2 (by cases e; rfl)) |>.trans hk)
  have b1 : Boxed W' n₀ 57 v := keep _ _ hv (by omega) (hne _ (by omega))
  have b2 : Boxed W' (n₀ + 1) 27 (.int .i64 x.2.2) := keep _ _ h.err (by omega) (hne _ (by omega))
  have b3 : Boxed W' (n₀ + 2) 3 (.int .i64 (x.2.1 : Int)) := by
    refine (hgrow.block _ (by rw [World.size_alloc, hsz1]; omega) (fun e => hne (n₀ + 2) (by omega) e.symm)).trans ?_
    exact (Below.heap_alloc _ _ _ (by rw [hsz1]; omega)).trans (h.fin.set _)
  have hr2 := hown.kept (grownBy_setCell' W' n₀ (.slice (some ⟨g, 0, none⟩) ((good pre).length + 1) cap)) (.inr (fun e => by have := (hown.lt _ rfl).1; cases e; omega))
  refine ⟨b1, ⟨⟨_, b1.set _, ?_⟩, b2.other (by omega) _, ?_, ?_, ?_⟩, ⟨?_, ?_⟩, ?_, ?_, ?_, ?_⟩
  · rw [good_snoc, if_pos hx, tcells_snoc, List.length_append]; exact hr2
  · rw [iend_snoc]; exact b3.other (by omega) _
  · refine Below.setCell (p := ⟨n₀, 0, none⟩) ?_ (Nat.le_refl _) _
    have hb := h.below.setCell (p := ⟨n₀ + 2, 0, none⟩) (show n₀ ≤ n₀ + 2 by omega) (.int .i64 (x.2.1 : Int))
    exact (hb.alloc (by rw [hsz1]; omega) tmp).grown hgrow (by rw [World.size_alloc, hsz1]; omega) (fun k e => by have := (hlow k e).1; omega)
  · simp only [World.setCell, Array.size_modify]; omega
  · simp only [World.setCell, Array.size_modify]; omega
  · intro k o hk hc
    have e1 : k ≠ n₀ + 2 := by
      rintro rfl
      have := (show W.heap[n₀ + 2]? = _ from h.fin).symm.trans hk
      cases this; cases hc
    have e2 : v.ownBlock ≠ some k := fun e => by
      rcases hrow.2 with ⟨rfl, _⟩ | ⟨g', cap', cur, rfl, _, hgb, _⟩
      · simp [Value.ownBlock] at e
      · simp only [Value.ownBlock, Option.some.injEq] at e
        subst e
        rw [hgb] at hk; cases hk; cases hc
    have e3 : k ≠ n₀ := by
      rintro rfl
      have := (show W.heap[k]? = _ from hv).symm.trans hk
      cases this; cases hc
    exact ((grownBy_setCell' W' n₀ _).block k (Array.getElem?_eq_some_iff.1 (keep k o hk e1 e2)).1 (fun e => e3 (by cases e; rfl))).trans (keep k o hk e1 e2)
  · have hx3 : n₀ + 3 < W.heap.size := by omega
    have hk := keep (n₀ + 3) _ (Array.getElem?_eq_getElem hx3) (by omega) (hne _ (by omega))
    exact ((grownBy_setCell' W' n₀ _).block _ (Array.getElem?_eq_some_iff.1 hk).1 (fun e => by cases e)).trans (hk.trans (Array.getElem?_eq_getElem hx3).symm)
  · have hx3 : n₀ + 4 < W.heap.size := by omega
    have hk := keep (n₀ + 4) _ (Array.getElem?_eq_getElem hx3) (by omega) (hne _ (by omega))
    exact ((grownBy_setCell' W' n₀ _).block _ (Array.getElem?_eq_some_iff.1 hk).1 (fun e => by cases e)).trans (hk.trans (Array.getElem?_eq_getElem hx3).symm)
  · exact (b2.other (by omega) _ : Boxed _ (n₀ + 1) _ _).trans (show W.heap[n₀ + 1]? = _ from h.err).symm
  · intro b c hb hn
    have e1 : b ≠ n₀ + 2 := by
      rintro rfl
      have := (show W.heap[n₀ + 2]? = _ from h.fin).symm.trans hb
      simp at this
    have e2 := hn v hv
    have e3 : b ≠ n₀ := by
      rintro rfl
      have := (show W.heap[b]? = _ from hv).symm.trans hb
      simp at this
    have hk := keep b _ hb e1 e2
    refine ⟨((grownBy_setCell' W' n₀ _).block b (Array.getElem?_eq_some_iff.1 hk).1 (fun e => e3 (by cases e; rfl))).trans hk, ?_⟩
    intro v2 hv2 e
    obtain rfl := boxed_uniq (b1.set _) hv2
    simp only [Value.ownBlock, Option.some.injEq] at e
    rcases hg with hg | hg
    · exact e2 (by rw [hg, e])
    · have := (Array.getElem?_eq_some_iff.1 hb).1
      omega

/-- a round's end, of an error -/
theorem TaI.skip {x : Tk.Tok × Nat × Int} (h : TaI n₀ w0 pre x.2.2 W) (hx : x.2.2 ≠ 0) :
    TaI n₀ w0 (pre ++ [x]) x.2.2 (W.setCell ⟨n₀ + 2, 0, none⟩ (.int .i64 (x.2.1 : Int))) ∧ KeepsOthers W (W.setCell ⟨n₀ + 2, 0, none⟩ (.int .i64 (x.2.1 : Int))) ∧ KpT n₀ (n₀ + 3) (n₀ + 4) (n₀ + 1) W (W.setCell ⟨n₀ + 2, 0, none⟩ (.int .i64 (x.2.1 : Int))) := by
  obtain ⟨v, hv, hrow⟩ := h.row
  have hsz := h.size
  have hg := grownBy_setCell' W (n₀ + 2) (.int .i64 (x.2.1 : Int))
  have hv2 := hv.other (show n₀ ≠ n₀ + 2 by omega) (.int .i64 (x.2.1 : Int))
  refine ⟨⟨⟨v, hv2, ?_⟩, h.err.other (by omega) _, ?_, h.below.setCell (p := ⟨n₀ + 2, 0, none⟩) (show n₀ ≤ n₀ + 2 by omega) _, ?_⟩, KeepsOthers.setCell _ _ _, hg.block _ (by omega) (fun e => by cases e), hg.block _ (by omega) (fun e => by cases e), hg.block _ (by omega) (fun e => by cases e), ?_⟩
  · rw [good_snoc, if_neg hx]
    refine hrow.kept hg (.inr (fun e => ?_))
    have := (hrow.lt _ e).1; omega
  · rw [iend_snoc]; exact h.fin.set _
  · simpa [World.setCell] using hsz
  · intro b c hb hn
    have e1 : b ≠ n₀ + 2 := by
      rintro rfl
      have := (show W.heap[n₀ + 2]? = _ from h.fin).symm.trans hb
      simp at this
    refine ⟨(hg.block b (Array.getElem?_eq_some_iff.1 hb).1 (fun e => e1 (by cases e; rfl))).trans hb, ?_⟩
    intro v2 hv3
    obtain rfl := boxed_uniq hv2 hv3
    exact hn v hv
end

theorem wpListIn_append_lies {F : Fence} {n : Nat} {P : Program} (w : World) {ops : Array Oper} {rest : List Oper} {o : Oper} {a : Act} {Q : Exit → Act → World → Prop}
    (hg : o.guard = none) (s x : Operand) (t : TypeId) (hop : o.op = Op.call { callee := Callee.builtin Builtin.append, args := #[s, x], argTypes := #[t, t] })
    (base : Nat) (e : TypeId) (i : TypeInfo) (z : Value) (size bytes : Nat) (h1 : P.underlying t = some (.slice e)) (h2 : P.info? e = some i) (h3 : i.zero = some z) (h4 : i.size = size) (h5 : i.bytes = bytes) (h6 : z.cells.size = size) (h7 : 0 < size)
    (v : Value) (k : Nat) (xs : List Value) (hs : a.eval s = v) (hown : w.ownsRow base e size v k xs) (ad : Addr) (m c : Nat) (news : List Value) (hx : a.eval x = .slice (some ad) m c) (hn : news.length = m * size)
    (hc : ∀ j u, news[j]? = some u → w.cell? (ad.add j) = some u) (h1c : ∀ u ∈ news, u.oneCell' = true) (hm : 0 < m) (b1 : k + m ≤ maxLen) (b2 : (k + m) * bytes ≤ 140737488355328) (b3 : base ≤ w.heap.size)
    (hK : ∀ g cap w', w'.ownsRow base e size (.slice (some ⟨g, 0, none⟩) (k + m) cap) (k + m) (xs ++ news) → w.grownBy w' v.ownBlock → (v.ownBlock = some g ∨ g = w.heap.size) → wpListIn F n P ops Q rest (a.put o.dst (.slice (some ⟨g, 0, none⟩) (k + m) cap)) w') :
    wpListIn F n P ops Q (o :: rest) a w := by
  refine wpListIn_plain hg fun K hK' => ?_
  obtain ⟨g, cap, w', hrun, r1, r2, r3, _⟩ := run_append_lies (P := P) w t o.type base e i z size bytes h1 h2 h3 h4 h5 h6 h7 v k xs hown ad m c news hn hc h1c hm b1 b2 b3 w.heap.size rfl
  unfold Oper.wpIn
  refine ⟨?_, ?_⟩
  · simp [Oper.about, hop, resolve, Target.leads, Sem.run_pure]
  · rw [Oper.semAt_plain F _ _ (by rw [hop]; intro c hc'; cases hc')]
    simp [execOp, hop, resolve, invoke, builtin, hs, hx, hrun, Result.andThen]
    exact hK' _ _ (hK g cap w' r1 r2 r3)

theorem infoTok : (Try.prog.info? 52).map (fun i => (i.zero, i.size, i.bytes)) = some (some (.agg #[.int .i64 0, .int .i64 0, .int .i64 0, .string ⟨#[]⟩, .int .i64 0]), 5, 48) := by kernel_rfl

/-- ahead of a round's body: the token lies in a cell of its own -/
def TaA (n₀ : Nat) (w0 : World) (act : Nat → Tk.Tok × Nat × Int → Act) (pre : List (Tk.Tok × Nat × Int)) (x : Tk.Tok × Nat × Int) (a : Act) (W : World) : Prop :=
  ∃ Bt, a = act Bt x ∧ TaI n₀ w0 pre x.2.2 W ∧ W.heap[Bt]? = some (.cells (tokCells x.1) 52 (0, 0)) ∧ NotRow n₀ W Bt
theorem TaA.own {n₀ : Nat} {w0 : World} {act : Nat → Tk.Tok × Nat × Int → Act} {B : Nat} {x : Tk.Tok × Nat × Int} {a : Act} (h0 : n₀ ≤ w0.heap.size) (hB : n₀ ≤ B) : OwnFrom B (fun pre => TaA n₀ w0 act pre x a) := by
  rintro pre W W' row ⟨Bp, ha, h1, h2, h3⟩ hg hr
  have hck := CKt.grown hg (fun r e => (hr r e).2)
  have h1' := TaI.own (fun _ => x.2.2) h0 hB pre W W' row h1 hg hr
  refine ⟨Bp, ha, h1', hck Bp _ h2 rfl, ?_⟩
  intro v hv e
  obtain ⟨v0, hv0, _⟩ := h1.row
  obtain rfl := boxed_uniq (hck.boxed hv0) hv
  exact h3 _ hv0 e

set_option maxRecDepth 100000 in
set_option maxHeartbeats 4000000 in
theorem all_in (s : ByteArray) (w : World) (hs : s.size ≤ 4294967280) (T : List (Tk.Tok × Nat × Int)) (hT : T = its (s.size + 1) s.data.toList 0) :
    CallsIn Fence.wide 6 Try.prog 35 #[.string s] w fun e w' => ∃ v, e = .returned (.tuple #[v, .int .i64 (iend T : Int), .int .i64 (ierr T)]) ∧ w'.ownsRow w.heap.size 52 5 v (good T).length (tcells (good T)) ∧ Below w.heap.size w w' := by
  obtain ⟨i0, hi, hz0, hz1, hz2⟩ := info_parts infoTok
  have hlen := its_len (s.size + 1) s.data.toList 0 (by omega)
  rw [← hT, len_data] at hlen
  have HT := Lib.hid hT
  clear hT
  refine callsIn_of_wp_marks Try.func35 rfl trivial ?_ rfl
  simp only [Try.ntmps35, List.size_toArray, List.length_cons, List.length_nil, Nat.reduceAdd, Nat.reduceSub, Array.replicate_succ, Array.replicate_zero, List.push_toArray, List.append_toArray, List.nil_append, List.cons_append]
  gi_wp2_with (refine ⟨trivial, ?_⟩; gi_at_call 75; refine (callsIn_wide.2 (tokens_any _ _ _)).mono ?_; rintro e w' ⟨rfl, rfl⟩)
  simp only [Nat.add_assoc, Nat.reduceAdd]
  obtain ⟨W5, hW5⟩ : ∃ W5, (((((w.alloc (.cells #[.slice none 0 0] 57)).alloc (.cells #[.int .i64 0] 27)).alloc (.cells #[.int .i64 0] 3)).alloc (.cells #[.string s] 9)).alloc (.cells #[.pointer (some ⟨w.heap.size + 1, 0, none⟩)] 106)) = W5 := ⟨_, rfl⟩
  have hsz : W5.heap.size = w.heap.size + 5 := by rw [← hW5]; simp
  have b0 := Boxed.new w 57 (.slice none 0 0)
  have b1 := Boxed.new (w.alloc (.cells #[.slice none 0 0] 57)) 27 (.int .i64 0)
  have b2 := Boxed.new ((w.alloc (.cells #[.slice none 0 0] 57)).alloc (.cells #[.int .i64 0] 27)) 3 (.int .i64 0)
  have b3 := Boxed.new (((w.alloc (.cells #[.slice none 0 0] 57)).alloc (.cells #[.int .i64 0] 27)).alloc (.cells #[.int .i64 0] 3)) 9 (.string s)
  have b4 := Boxed.new ((((w.alloc (.cells #[.slice none 0 0] 57)).alloc (.cells #[.int .i64 0] 27)).alloc (.cells #[.int .i64 0] 3)).alloc (.cells #[.string s] 9)) 106 (.pointer (some ⟨w.heap.size + 1, 0, none⟩))
  simp only [World.size_alloc] at b1 b2 b3 b4
  have c0 := (((b0.alloc (.cells #[.int .i64 0] 27)).alloc (.cells #[.int .i64 0] 3)).alloc (.cells #[.string s] 9)).alloc (.cells #[.pointer (some ⟨w.heap.size + 1, 0, none⟩)] 106)
  have c1 := ((b1.alloc (.cells #[.int .i64 0] 3)).alloc (.cells #[.string s] 9)).alloc (.cells #[.pointer (some ⟨w.heap.size + 1, 0, none⟩)] 106)
  have c2 := (b2.alloc (.cells #[.string s] 9)).alloc (.cells #[.pointer (some ⟨w.heap.size + 1, 0, none⟩)] 106)
  have c3 := b3.alloc (.cells #[.pointer (some ⟨w.heap.size + 1, 0, none⟩)] 106)
  have hbl : Below w.heap.size w (((((w.alloc (.cells #[.slice none 0 0] 57)).alloc (.cells #[.int .i64 0] 27)).alloc (.cells #[.int .i64 0] 3)).alloc (.cells #[.string s] 9)).alloc (.cells #[.pointer (some ⟨w.heap.size + 1, 0, none⟩)] 106)) := (((((Below.refl _ w).alloc (Nat.le_refl _) _).alloc (by simp) _).alloc (by simp; omega) _).alloc (by simp; omega) _).alloc (by simp; omega) _
  rw [hW5] at c0 c1 c2 c3 b4 hbl
  rw [hW5]
  clear hW5 b0 b1 b2 b3
  have hI0 : TaI w.heap.size w [] 0 W5 := ⟨⟨_, c0, World.ownsRow_nil _ _ _ _⟩, c1, c2, hbl, by omega⟩
  have hBp : Boxed W5 (w.heap.size + 4) 106 (.pointer (some ⟨w.heap.size + 1, 0, none⟩)) := b4
  have hBs : Boxed W5 (w.heap.size + 3) 9 (.string s) := c3
  refine wpIn_rangeFunc_fr rfl (by omega) (gf := 98) (lb := #[.pointer (some ⟨w.heap.size + 3, 0, none⟩), .pointer (some ⟨w.heap.size + 4, 0, none⟩)]) rfl trivial (enters_of Try.func98 (by kernel_rfl) rfl)
    (toks_seq 5 w.heap.size (w.heap.size + 3) (w.heap.size + 4) (w.heap.size + 1) s hs T HT.out W5 hBs hBp _ c1)
    (fun pre x A B hs => by
      obtain ⟨A', hA, rfl⟩ := hs
      intro k o _ hk hc
      have h1 := (hA.block k (Array.getElem?_eq_some_iff.1 hk).1).trans hk
      exact (KeepsOthers.setCell A' ⟨w.heap.size + 1, 0, none⟩ (.int .i64 x.2.2)).same k o h1 hc)
    (fun A B hs => by subst hs; exact fun _ _ _ h _ => h) (fun h1 h2 => h1.trans h2)
    (fun W l o o' hl ho hc _ => by
      have hne : ∀ k, k < w.heap.size + 5 → (W.putObj l o').heap[k]? = W.heap[k]? := fun k hk => World.putObj_heap_other (by omega)
      refine ⟨hne _ (by omega), hne _ (by omega), hne _ (by omega), fun b c hb hn => ⟨(World.putObj_heap_other (fun e => by subst e; rw [ho] at hb; cases hb; cases hc)).trans hb, fun v hv => hn v ((hne _ (by omega)).symm.trans hv)⟩⟩)
    (Below.refl _ _) (fun _ => rfl)
    (fun pre => TaI w.heap.size w pre (ierr pre)) (fun pre x => TaI w.heap.size w pre x.2.2)
    (TaA w.heap.size w (fun Bt x => { tmps := #[.string s, undef, .slice none 0 0, .int .i64 0, .int .i64 0, .pointer (some ⟨w.heap.size, 0, none⟩), .pointer (some ⟨w.heap.size + 1, 0, none⟩), .pointer (some ⟨w.heap.size + 2, 0, none⟩), .int .i64 (x.2.1 : Int), .pointer (some ⟨Bt, 0, none⟩), .string s,
      .func (.func 98) #[] #[.pointer (some ⟨w.heap.size + 3, 0, none⟩), .pointer (some ⟨w.heap.size + 4, 0, none⟩)], .int .i64 (x.2.1 : Int), tokV x.1, undef, undef, undef, undef, undef, undef, undef, undef, undef, undef], defers := [] }))
    (fun _ _ _ => False)
    (TaI.own (fun pre => ierr pre) (Nat.le_refl _) (by omega)) (fun x => TaI.own (fun _ => x.2.2) (Nat.le_refl _) (by omega)) (fun _ _ => TaA.own (Nat.le_refl _) (by omega)) (fun _ _ _ _ _ hs _ _ => hs)
    (fun pre x A B h _ hs => h.step hs) (fun pre A B h hs => by cases hs; exact h) (fun pre A h => h.fr) hI0 ?assign ?body ?done ?stop
  case assign =>
    intro l pre x W K hI hok hK
    unfold tokV
    gi_wp2
    have hh := heap_alloc_new W (.cells (tokCells x.1) 52)
    have hsW := hI.size
    have hbelow := fun k (hk : k < W.heap.size) => Below.heap_alloc W (.cells (tokCells x.1) 52) k hk
    obtain ⟨v0, hv0, hr0⟩ := hI.row
    have hv1 := hv0.alloc (.cells (tokCells x.1) 52)
    refine hK _ _ ((KeepsOthers.alloc W _).from _) ⟨hbelow _ (by omega), hbelow _ (by omega), hbelow _ (by omega), ?_⟩ ⟨W.heap.size, rfl, ?_, hh, ?_⟩
    · intro b c hb hn
      refine ⟨(hbelow b (Array.getElem?_eq_some_iff.1 hb).1).trans hb, fun v hv => ?_⟩
      obtain rfl := boxed_uniq hv1 hv
      exact hn _ hv0
    · exact hI.ck (CKt.below ((Below.refl _ W).alloc (Nat.le_refl _) _)) (hI.below.alloc (by omega) _) (by simp)
    · intro v hv e
      obtain rfl := boxed_uniq hv1 hv
      have := (hr0.lt _ e).2
      omega
  case body =>
    rintro l pre x a' W ⟨Bt, rfl, hI, ht, hnr⟩ hok
    unfold tokV
    have hsW := hI.size
    obtain ⟨v, hv, hrow⟩ := hI.row
    have hgl := good_len pre
    have hpl : (good pre).length < 4294967290 := by
      have h1 := hok.length_le
      simp at h1; omega
    have cf := hI.fin.cell
    have ff := hI.fin.frozen
    have hne : Bt ≠ w.heap.size + 2 := by
      rintro rfl
      have := (show W.heap[w.heap.size + 2]? = _ from hI.fin).symm.trans ht
      simp at this
    by_cases hx : x.2.2 = 0
    · have tx : (x.2.2 == 0) = true := beq_iff_eq.2 hx
      have q1 := (hI.err.other (show w.heap.size + 1 ≠ w.heap.size + 2 by omega) (.int .i64 (x.2.1 : Int))).cell
      have q0 := (hv.other (show w.heap.size ≠ w.heap.size + 2 by omega) (.int .i64 (x.2.1 : Int))).cell
      have hrow2 := hrow.kept (grownBy_setCell' W (w.heap.size + 2) (.int .i64 (x.2.1 : Int))) (by
        cases hv' : v.ownBlock with
        | none => exact .inl rfl
        | some g => exact .inr (fun e => by cases e; have := (hrow.lt _ hv').1; omega))
      have ht1 := row_other ht (fun e => hne e.symm) 0 (.int .i64 (x.2.1 : Int))
      have hwz : (W.setCell ⟨w.heap.size + 2, 0, none⟩ (.int .i64 (x.2.1 : Int))).heap.size = W.heap.size := by simp [World.setCell]
      obtain ⟨z0, z1, z2, z3, z4⟩ := tok_cells ht1
      have hnb := heap_alloc_new (W.setCell ⟨w.heap.size + 2, 0, none⟩ (.int .i64 (x.2.1 : Int))) (.cells (tokCells x.1) 52)
      rw [hwz] at hnb
      gi_wp2_with (gi_at_builtin; go_loud (refine wpListIn_append_lies _ rfl _ _ 57 rfl (w.heap.size + 5) 52 i0 _ 5 48 Try.underlying57 hi hz0 hz1 hz2 rfl (by decide) _ _ _ rfl (hrow2.alloc _) ⟨W.heap.size, 0, none⟩ 1 1 (tokCells x.1).toList rfl rfl (World.news_of_block hnb) (by simp [tokCells, Value.oneCell']) (by omega) (by unfold maxLen; omega) (by omega) (by rw [World.size_alloc, hwz]; omega) ?_; intro g cap w1 hown hgrow hgl2; obtain ⟨hv1, hI1, hk, hkp⟩ := hI.put hv hx hown hgrow (by rw [World.size_alloc, hwz] at hgl2; exact hgl2) (Nat.le_refl _); have hc1 := hv1.cell; have hf1 := hv1.frozen))
      rw [← ierr_snoc pre x] at hI1
      exact ⟨hk.from _, hkp, hI1⟩
    · have tx : (x.2.2 == 0) = false := beq_eq_false_iff_ne.2 hx
      have q1 := (hI.err.other (show w.heap.size + 1 ≠ w.heap.size + 2 by omega) (.int .i64 (x.2.1 : Int))).cell
      obtain ⟨hI1, hk, hkp⟩ := hI.skip hx
      gi_wp2
      rw [← ierr_snoc pre x] at hI1
      exact ⟨hk.from _, hkp, hI1⟩
  case done =>
    rintro D ys W hD hys hI hK
    rw [hys] at hI
    clear hys
    obtain ⟨v, hv, hrow⟩ := hI.row
    have hsW := hI.size
    have hc := hv.cell
    have hce := hI.err.cell
    have hcf := hI.fin.cell
    obtain ⟨vp, vk, vc, rfl⟩ : ∃ p k c, v = .slice p k c := by
      rcases hrow.2 with ⟨rfl, _⟩ | ⟨g, cap, cur, rfl, _⟩
      · exact ⟨_, _, _, rfl⟩
      · exact ⟨_, _, _, rfl⟩
    gi_wp2
    gi_region
    gi_wp2
    refine ⟨by simp, .inl ⟨_, _, rfl, run_takeDeferred (show W.drew.heap[D]? = _ from hK), ?_⟩⟩
    have hck := (CKt.below ((Below.refl _ W).drew)).owns hrow
    have hck2 := (ckt_putObj (.deferred none) (show W.drew.heap[D]? = _ from hK) rfl).owns hck
    refine ⟨.tuple #[.slice vp vk vc, .int .i64 (iend T : Int), .int .i64 (ierr T)], by simp [results, Try.results35, go_sem], ⟨_, rfl, ?_, ?_⟩⟩
    · rcases hck2.2 with h | ⟨g, cap, cur, h1, h2, h3⟩
      · exact ⟨hck2.1, .inl h⟩
      · exact ⟨hck2.1, .inr ⟨g, cap, cur, h1, by omega, h3⟩⟩
    · exact hI.below.drew.trans (belowK_b (w := w) (Nat.le_refl _) W.drew D _ _ (by omega) (show W.drew.heap[D]? = _ from hK) rfl rfl)
  case stop =>
    rintro D c pre W _ _ h _
    exact h.elim

end Go.Proofs.Ythbpkmmnoeikoaa

/-
  The reference's utf: Put, Bytes, Get. Condition: lists of at most 2^32 bytes.
-/
namespace Go.Proofs.Ythbpkmmnoeikoaa
open Go Go.RowKit Go.Deep
set_option linter.unusedVariables false
set_option linter.unusedSimpArgs false

theorem chain {a b c : World} (h : Below a.heap.size a b) (k : Below b.heap.size b c) : Below a.heap.size a c := h.trans (k.mono h.size)
theorem below_drewN {B : Nat} {a w : World} (h : Below B a w) (n : Nat) : Below B a (w.drewN n) := ⟨h.os, h.tape, h.output, h.size, h.block⟩
theorem cell_below {w w' : World} (h : Below w.heap.size w w') {a : Addr} {v : Value} (hc : w.cell? a = some v) : w'.cell? a = some v :=
  (World.cell?_of_block (h.block a.block (World.block_lt_of_cell? w a hc))).trans hc

set_option maxRecDepth 100000 in
set_option maxHeartbeats 2000000 in
theorem rput_any (c : Int) (w : World) :
    Calls Try.prog 63 #[.int .i64 c] w fun e w' => ∃ v, e = .returned v ∧ BytesV w' v (putI c) ∧ Below w.heap.size w w' := by
  have HC := Lib.hid (fun W => rcode_any c W)
  cases hcd : codeI c with
  | false =>
    have hp : putI c = [] := by unfold putI; rw [hcd]; rfl
    rw [hp]
    rw [hcd] at HC
    clear hp hcd
    go_enter Try.func63, Try.ntmps63
    go_wp2_with (go_at_call 89; refine (HC.out _).mono ?_; rintro e w1 ⟨rfl, rfl⟩)
    go_ret
    exact ⟨_, rfl, ⟨none, 0, rfl, Nat.le_refl _, Nat.zero_le _, fun j hj => absurd hj (by simp)⟩, Below.refl _ _⟩
  | true =>
    rw [hcd] at HC
    have hc0 : 0 ≤ c ∧ c ≤ 1114111 := by unfold codeI at hcd; simp at hcd; omega
    obtain ⟨n, rfl⟩ := Int.eq_ofNat_of_zero_le hc0.1
    rw [codeI_nat] at hcd
    have hp : putI (n : Int) = Uf.put n := by unfold putI; rw [codeI_nat, hcd]; rfl
    rw [hp]
    have hn : n ≤ 1114111 := by omega
    unfold Uf.put
    rw [hcd, if_neg (by simp)]
    clear hp hcd hc0
    have q1 : (n : Int).tdiv 64 = (n : Int) / 64 := Int.tdiv_eq_ediv_of_nonneg (by omega)
    have q2 : (n : Int).tmod 64 = (n : Int) % 64 := Int.tmod_eq_emod_of_nonneg (by omega)
    have q3 : (n : Int).tdiv 4096 = (n : Int) / 4096 := Int.tdiv_eq_ediv_of_nonneg (by omega)
    have q4 : (n : Int).tdiv 262144 = (n : Int) / 262144 := Int.tdiv_eq_ediv_of_nonneg (by omega)
    have q5 : ((n : Int) / 64).tmod 64 = (n : Int) / 64 % 64 := Int.tmod_eq_emod_of_nonneg (by omega)
    have q6 : ((n : Int) / 4096).tmod 64 = (n : Int) / 4096 % 64 := Int.tmod_eq_emod_of_nonneg (by omega)
    by_cases h1 : n < 128
    · rw [if_pos h1]
      have t1 : decide ((n : Int) < 128) = true := decide_eq_true (by omega)
      go_enter Try.func63, Try.ntmps63
      go_wp2_with (go_at_call 89; refine (HC.out _).mono ?_; rintro e w1 ⟨rfl, rfl⟩)
      go_ret
      exact ⟨_, rfl, cells_bytes _ _ _ (by simp; try omega) _ (by unfold maxLen; simp) _ rfl, (Below.refl _ w1).alloc (Nat.le_refl _) _⟩
    · rw [if_neg h1]
      have t1 : decide ((n : Int) < 128) = false := decide_eq_false (by omega)
      by_cases h2 : n < 2048
      · rw [if_pos h2]
        have t2 : decide ((n : Int) < 2048) = true := decide_eq_true (by omega)
        clear h1
        go_enter Try.func63, Try.ntmps63
        go_wp2_with (go_at_call 89; refine (HC.out _).mono ?_; rintro e w1 ⟨rfl, rfl⟩)
        go_ret
        exact ⟨_, rfl, cells_bytes _ _ _ (by simp; try omega) _ (by unfold maxLen; simp) _ rfl, (Below.refl _ w1).alloc (Nat.le_refl _) _⟩
      · rw [if_neg h2]
        have t2 : decide ((n : Int) < 2048) = false := decide_eq_false (by omega)
        by_cases h3 : n < 65536
        · rw [if_pos h3]
          have t3 : decide ((n : Int) < 65536) = true := decide_eq_true (by omega)
          have w1 : ((224 : Int) + (n : Int) / 4096) % 256 = 224 + (n : Int) / 4096 := by omega
          clear h1 h2 h3
          go_enter Try.func63, Try.ntmps63
          go_wp2_with (go_at_call 89; refine (HC.out _).mono ?_; rintro e w1 ⟨rfl, rfl⟩)
          go_ret
          exact ⟨_, rfl, cells_bytes _ _ _ (by simp; try omega) _ (by unfold maxLen; simp) _ rfl, (Below.refl _ _).alloc (Nat.le_refl _) _⟩
        · rw [if_neg h3]
          have t3 : decide ((n : Int) < 65536) = false := decide_eq_false (by omega)
          have w1 : ((240 : Int) + (n : Int) / 262144) % 256 = 240 + (n : Int) / 262144 := by omega
          clear h1 h2 h3
          go_enter Try.func63, Try.ntmps63
          go_wp2_with (go_at_call 89; refine (HC.out _).mono ?_; rintro e w1 ⟨rfl, rfl⟩)
          go_ret
          exact ⟨_, rfl, cells_bytes _ _ _ (by simp; try omega) _ (by unfold maxLen; simp) _ rfl, (Below.refl _ _).alloc (Nat.le_refl _) _⟩

def BbR (a b : List UInt8) (w0 : World) (i : Value) (w : World) : Prop :=
  ∃ k : Nat, k ≤ a.length ∧ i = .int .i64 (k : Int) ∧ Below w0.heap.size w0 w ∧ Hid (a.take k = b.take k)
theorem take_ext {α : Type} {a b : List α} {k : Nat} (h : a.take k = b.take k) (ha : k < a.length) (hb : k < b.length) (he : a[k] = b[k]) : a.take (k + 1) = b.take (k + 1) := by
  rw [List.take_add_one, List.take_add_one, h, List.getElem?_eq_getElem ha, List.getElem?_eq_getElem hb, he]
set_option maxHeartbeats 2000000 in
theorem bytes_any (v1 v2 : Value) (a b : List UInt8) (w : World) (h1 : BytesV w v1 a) (h2 : BytesV w v2 b) (hn : a.length ≤ 4294967296) (hn2 : b.length ≤ 4294967296) :
    Calls Try.prog 62 #[v1, v2] w fun e w' => e = .returned (.bool (decide (a = b))) ∧ Below w.heap.size w w' := by
  obtain ⟨p1, c1, rfl, _, _, hf1⟩ := h1
  obtain ⟨p2, c2, rfl, _, _, hf2⟩ := h2
  by_cases hl : a.length = b.length
  · have t0 : ((a.length : Int) != (b.length : Int)) = false := by rw [hl]; simp
    go_enter Try.func62, Try.ntmps62
    go_wp2
    go_loopw [5] (BbR a b w) (fun i _ => a.length - (intOf i).toNat)
    case atStart => exact ⟨0, Nat.zero_le _, by go_num, Below.refl _ _, by unfold Hid; simp⟩
    case round =>
      obtain ⟨k, hk, rfl, hbl, HE⟩ := hrel
      by_cases hlt : k < a.length
      · obtain ⟨b1, o1, rfl, hc1⟩ := hf1 k hlt
        obtain ⟨b2, o2, rfl, hc2⟩ := hf2 k (by omega)
        have htx : a[k] = b[k] → a.take (k + 1) = b.take (k + 1) := fun h => take_ext HE.out hlt (by omega) h
        have hnx : a[k] ≠ b[k] → decide (a = b) = false := fun h => decide_eq_false (fun e => h (by subst e; rfl))
        generalize a[k] = ra at *
        generalize b[k] = rb at *
        have HT := Lib.hid htx
        have HN := Lib.hid hnx
        clear htx hnx
        have e1 := cell_below hbl hc1
        have e2 := cell_below hbl hc2
        have i1 : (0 : Int) ≤ (k : Int) := by omega
        have i2 : (k : Int) < (a.length : Int) := by omega
        have i3 : (k : Int) < (b.length : Int) := by omega
        by_cases hff : ra = rb
        · have t3 : ((ra.toNat : Int) != (rb.toNat : Int)) = false := by rw [hff]; simp
          have HH := Lib.hid (HT.out hff)
          clear hff
          go_wp2
          go_quiet (fail)
          go_wp2
          go_roundw
          case rel => exact ⟨k + 1, by omega, by go_num, below_drewN hbl _, HH⟩
          case measure => simp [intOf]; omega
        · have t3 : ((ra.toNat : Int) != (rb.toNat : Int)) = true := by
            rw [bne_iff_ne]; intro h; exact hff (UInt8.toNat_inj.1 (by omega))
          have HA := Lib.hid (HN.out hff)
          clear hff
          go_wp2
          go_quiet (fail)
          go_wp2
          go_ret
          exact ⟨ret_b HA.out.symm, below_drewN hbl _⟩
      · have hee : a = b := by
          have := HE.out
          obtain rfl : k = a.length := by omega
          rw [List.take_length, hl, List.take_length] at this
          exact this
        have HA := Lib.hid (decide_eq_true hee)
        clear hee
        go_wp2
        go_ret
        exact ⟨ret_b HA.out.symm, hbl⟩
  · have t0 : ((a.length : Int) != (b.length : Int)) = true := by rw [bne_iff_ne]; omega
    have HA : Hid (decide (a = b) = false) := decide_eq_false (fun e => hl (by rw [e]))
    clear hl
    go_enter Try.func62, Try.ntmps62
    go_wp2
    go_ret
    exact ⟨ret_b HA.out.symm, Below.refl _ _⟩

end Go.Proofs.Ythbpkmmnoeikoaa
