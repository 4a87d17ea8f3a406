/-
  JSON's tokens: what stands at a list's beginning. No program text.
-/
import Derived.Test.YthbpkmmnoeikoaaUtfValid
import Derived.Test.YthbpkmmnoeikoaaNumSpec
namespace Go.Proofs.Ythbpkmmnoeikoaa.Tk
set_option linter.unusedVariables false
set_option linter.unusedSimpArgs false
abbrev F := List UInt8

def dig (c : UInt8) : Bool := decide (48 ≤ c.toNat ∧ c.toNat ≤ 57)
def let' (c : UInt8) : Bool := decide ((97 ≤ c.toNat ∧ c.toNat ≤ 122) ∨ (65 ≤ c.toNat ∧ c.toNat ≤ 90))
def blank (c : UInt8) : Bool := c == 32 || c == 9 || c == 10 || c == 13
def numc (c : UInt8) : Bool := dig c || c == 45 || c == 43 || c == 46 || c == 101 || c == 69
def span (p : UInt8 → Bool) (l : F) : Nat := (l.takeWhile p).length

def hex (c : UInt8) : Option Nat :=
  if 48 ≤ c.toNat ∧ c.toNat ≤ 57 then some (c.toNat - 48) else if 97 ≤ c.toNat ∧ c.toNat ≤ 102 then some (c.toNat - 87) else if 65 ≤ c.toNat ∧ c.toNat ≤ 70 then some (c.toNat - 55) else none
/-- digits in sixteen, so many of them -/
def hexs : Nat → F → Nat → Option Nat
  | 0, _, a => some a
  | _ + 1, [], _ => none
  | n + 1, c :: l, a => match hex c with | none => none | some d => hexs n l (a * 16 + d)
def unit (l : F) : Option Nat := if l.head? = some 92 ∧ l.tail.head? = some 117 then hexs 4 (l.drop 2) 0 else none
def simple (c : UInt8) : Option UInt8 :=
  if c = 34 ∨ c = 92 ∨ c = 47 then some c else if c = 98 then some 8 else if c = 102 then some 12 else if c = 110 then some 10 else if c = 114 then some 13 else if c = 116 then some 9 else none
def uesc (l : F) : Option (F × Nat) :=
  match unit l with
  | none => none
  | some c => if Uf.code c then some (Uf.put c, 6) else if 56320 ≤ c then none else
    match unit (l.drop 6) with
    | none => none
    | some d => if 56320 ≤ d ∧ d ≤ 57343 then some (Uf.put (65536 + (c - 55296) * 1024 + (d - 56320)), 12) else none
/-- what an escape means, and how long it is -/
def esc (l : F) : Option (F × Nat) :=
  match l.tail with
  | [] => uesc l
  | c :: _ => match simple c with | some x => some ([x], 2) | none => uesc l

def sh (k : Nat) (p : F × Nat × Bool) : F × Nat × Bool := (p.1, p.2.1 + k, p.2.2)
/-- from behind a quote on -/
def txt : Nat → F → F → F × Nat × Bool
  | 0, _, _ => ([], 0, false)
  | _ + 1, [], _ => ([], 0, false)
  | n + 1, c :: r, a =>
    if c = 34 then (a, 1, true)
    else if c = 92 then (match esc (c :: r) with | none => ([], 0, false) | some p => sh p.2 (txt n ((c :: r).drop p.2) (a ++ p.1)))
    else (match Uf.get (c :: r) with | none => ([], 0, false) | some p => if c.toNat < 32 then ([], 0, false) else sh p.2 (txt n ((c :: r).drop p.2) (a ++ (c :: r).take p.2)))

def digs (l : F) : Nat := span dig l
def body (l : F) : F := if l.head? = some 45 then l.tail else l
def frac (l : F) : Option F := if l.head? = some 46 then (if digs l.tail = 0 then none else some (l.tail.drop (digs l.tail))) else some l
def sign (l : F) : F := if l.head? = some 43 ∨ l.head? = some 45 then l.tail else l
def expo (l : F) : Option F := if l.head? = some 101 ∨ l.head? = some 69 then (if digs (sign l.tail) = 0 then none else some ((sign l.tail).drop (digs (sign l.tail)))) else some l
/-- what a row says; an error's number -/
def number (l : F) : Int × Int :=
  if digs (body l) = 0 ∨ (1 < digs (body l) ∧ (body l).head? = some 48) then (0, 2) else
  match frac ((body l).drop (digs (body l))) with
  | none => (0, 2)
  | some r => match expo r with
    | none => (0, 2)
    | some q => if q ≠ [] then (0, 2) else if (body l).drop (digs (body l)) ≠ [] then (0, 5) else if l = [45, 48] then (0, 0) else Nm.parse l

structure Tok where
  kind : Nat
  at' : Nat
  end' : Nat
  s : F
  n : Int
def zero : Tok := ⟨0, 0, 0, [], 0⟩
def mark (c : UInt8) : Option Nat := if c = 91 then some 1 else if c = 93 then some 2 else if c = 123 then some 3 else if c = 125 then some 4 else if c = 58 then some 5 else if c = 44 then some 6 else none
def word (w : F) : Bool := w == [116, 114, 117, 101] || w == [102, 97, 108, 115, 101] || w == [110, 117, 108, 108]
/-- the token at the beginning, behind k blanks -/
def tok (k : Nat) (m : F) : Tok × Nat × Int :=
  match m with
  | [] => (⟨0, k, k, [], 0⟩, k, 0)
  | c :: r => match mark c with
    | some j => (⟨j, k, k + 1, [], 0⟩, k + 1, 0)
    | none =>
      if c = 34 then (if (txt (r.length + 1) r []).2.2 then (⟨7, k, k + 1 + (txt (r.length + 1) r []).2.1, (txt (r.length + 1) r []).1, 0⟩, k + 1 + (txt (r.length + 1) r []).2.1, 0) else (zero, k + 1 + (txt (r.length + 1) r []).2.1, 2))
      else if dig c = true ∨ c = 45 then
        (if (number ((c :: r).takeWhile numc)).2 ≠ 0 then (zero, k, (number ((c :: r).takeWhile numc)).2) else (⟨8, k, k + span numc (c :: r), [], (number ((c :: r).takeWhile numc)).1⟩, k + span numc (c :: r), 0))
      else if word ((c :: r).takeWhile let') then (⟨9, k, k + span let' (c :: r), (c :: r).takeWhile let', 0⟩, k + span let' (c :: r), 0) else (zero, k, 2)
/-- the token at a place of a text -/
def next (l : F) (a : Nat) : Tok × Nat × Int := tok (a + span blank (l.drop a)) (l.drop (a + span blank (l.drop a)))

theorem span_le (p : UInt8 → Bool) (l : F) : span p l ≤ l.length := by
  unfold span
  have := (List.takeWhile_prefix p (l := l)).length_le
  exact this
theorem span_take (p : UInt8 → Bool) (l : F) : l.take (span p l) = l.takeWhile p := by
  unfold span
  exact (List.prefix_iff_eq_take.1 (List.takeWhile_prefix p)).symm
theorem span_cons (p : UInt8 → Bool) (c : UInt8) (l : F) : span p (c :: l) = if p c then span p l + 1 else 0 := by
  unfold span
  cases h : p c <;> simp [List.takeWhile_cons, h]
/-- counting on -/
theorem span_step (p : UInt8 → Bool) (l : F) (n : Nat) (h : n ≤ span p l) (hl : n < l.length) : (p l[n] = true → n + 1 ≤ span p l) ∧ (p l[n] = false → span p l = n) := by
  induction l generalizing n with
  | nil => simp at hl
  | cons c l ih =>
    rw [span_cons] at *
    cases n with
    | zero =>
      simp only [List.getElem_cons_zero]
      cases hc : p c <;> simp
    | succ n =>
      cases hc : p c with
      | false => rw [hc] at h; simp at h
      | true =>
        rw [hc] at h
        simp only [if_true] at h
        have := ih n (by omega) (by simpa using hl)
        simp only [List.getElem_cons_succ, if_true]
        exact ⟨fun q => by have := this.1 q; omega, fun q => by have := this.2 q; omega⟩

end Go.Proofs.Ythbpkmmnoeikoaa.Tk
