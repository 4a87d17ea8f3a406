/-
  Several texts in one, each with its own head below. Conditions: as each says.
-/
import Derived.Test.YthbpkmmnoeikoaaJm12
import Derived.Test.YthbpkmmnoeikoaaJm11
import Derived.Test.YthbpkmmnoeikoaaJm10
import Derived.Deep.QuietTactic
import Derived.BigQuiet
/-
  json.put, json.Print: what is written; the builder. Condition: the thing is right; its text is at most a million bytes long.
-/
namespace Go.Proofs.Ythbpkmmnoeikoaa
open Go Go.RowKit
set_option linter.unusedVariables false
set_option linter.unusedSimpArgs false

/-- one of a row's things, as it is written -/
def itx (T : Js.J → List UInt8) (kd : Int) (ns : List (List UInt8)) (xs : List Js.J) (i : Nat) : List UInt8 :=
  (if i = 0 then [] else [44]) ++ ((if kd = 6 then Tk.quote (ns.getD i []) ++ [58] else []) ++ (match xs[i]? with | some x => T x | none => []))
def jits (T : Js.J → List UInt8) (kd : Int) (ns : List (List UInt8)) (xs : List Js.J) (m : Nat) : List UInt8 := ((List.range m).map (itx T kd ns xs)).flatten
theorem jits_succ (T : Js.J → List UInt8) (kd : Int) (ns : List (List UInt8)) (xs : List Js.J) (m : Nat) : jits T kd ns xs (m + 1) = jits T kd ns xs m ++ itx T kd ns xs m := by
  unfold jits
  rw [List.range_succ, List.map_append, List.flatten_append]
  simp
theorem jits_le (T : Js.J → List UInt8) (kd : Int) (ns : List (List UInt8)) (xs : List Js.J) {m n : Nat} (h : m ≤ n) : (jits T kd ns xs m).length ≤ (jits T kd ns xs n).length := by
  induction h with
  | refl => exact Nat.le_refl _
  | step _ ih => rw [jits_succ, List.length_append]; omega
/-- a thing's text -/
def txt : Nat → Js.J → List UInt8
  | 0, _ => []
  | k + 1, .mk kd n s ns xs => if kd = 0 then [110, 117, 108, 108] else if kd = 1 then (if n = 0 then [102, 97, 108, 115, 101] else [116, 114, 117, 101]) else if kd = 2 then Nm.pr n else if kd = 4 then Tk.quote s else
      (if kd = 5 then 91 else 123) :: (jits (txt k) kd ns xs xs.length ++ [if kd = 5 then 93 else 125])
/-- its numbers and texts are of a size -/
inductive Pz : Js.J → Prop
  | mk (kd m : Int) (s : List UInt8) (ns : List (List UInt8)) (xs : List Js.J) (h0 : -9223372036854775808 ≤ m ∧ m ≤ 9223372036854775807) (h1 : s.length ≤ 500000000) (h2 : ∀ x ∈ ns, x.length ≤ 500000000) (h3 : ∀ i (h : i < xs.length), Pz xs[i]) : Pz (.mk kd m s ns xs)

/-- a builder that may have been read -/
def IsF (B b : Nat) (l : List UInt8) (w : World) : Prop := Lib.IsBuilderF 109 5 B b (Lib.byteCells l) w
theorem IsF.of {B b : Nat} {l : List UInt8} {w : World} (h : IsB B b l w) : IsF B b l w := Lib.IsBuilderF.of h
theorem BAf.below {T e : TypeId} {B b : Nat} {p : Value} {bs : List Value} {w w' : World} (h : Lib.BuilderAtF T e B b p bs w) (hb : Below w.heap.size w w') : Lib.BuilderAtF T e B b p bs w' := by
  obtain ⟨hB, v, hc, ho, hne⟩ := h
  have hlt := (Array.getElem?_eq_some_iff.1 hc).1
  refine ⟨hB, v, (hb.block b hlt).trans hc, ⟨ho.1, ?_⟩, hne⟩
  rcases ho.2 with h | ⟨g, cap, cur, fz, h1, h2, h3, h4⟩
  · exact .inl h
  · have hg := (Array.getElem?_eq_some_iff.1 h3).1
    exact .inr ⟨g, cap, cur, fz, h1, h2, (hb.block g hg).trans h3, h4⟩
theorem IsF.below {B b : Nat} {l : List UInt8} {w w' : World} (h : IsF B b l w) (hb : Below w.heap.size w w') : IsF B b l w' := h.elim (fun x => .inl (BAf.below x hb)) (fun x => .inr (BAf.below x hb))
theorem BAf.lt {T e : TypeId} {B b : Nat} {p : Value} {bs : List Value} {w : World} (h : Lib.BuilderAtF T e B b p bs w) : B ≤ b ∧ b < w.heap.size := by
  obtain ⟨hB, v, hc, ho, hne⟩ := h
  exact ⟨hB, (Array.getElem?_eq_some_iff.1 hc).1⟩
theorem IsF.lt {B b : Nat} {l : List UInt8} {w : World} (h : IsF B b l w) : B ≤ b ∧ b < w.heap.size := h.elim BAf.lt BAf.lt
theorem okept {b : Nat} {w w' : World} (hb : Below w.heap.size w w') : Lib.OthersKept 5 (some b) w w' := fun k o hk _ _ => (hb.block k (Array.getElem?_eq_some_iff.1 hk).1).trans hk
theorem wbk_any (B b : Nat) (l : List UInt8) (c : UInt8) (w : World) (h : IsF B b l w) (hlen : l.length ≤ 70368744177664) :
    Calls Try.prog 76 #[.pointer (some ⟨b, 0, none⟩), .int .u8 (c.toNat : Int)] w fun e w' => e = .returned .nilIface ∧ IsF B b (l ++ [c]) w' ∧ Below B w w' ∧ Lib.OthersKept 5 (some b) w w' := by
  have hlt := h.lt
  refine (Any.Builder_WriteByte_k Try.lays167 Try.builderExtra167 B b _ (c.toNat : Int) w h (by rw [byteCells_length]; omega) (by omega)).mono ?_
  rintro e w' ⟨rfl, h1, h2, h3⟩
  rw [byteCells_snoc] at h1
  exact ⟨rfl, .inr h1, h2, h3⟩
theorem wsk_any (B b : Nat) (l : List UInt8) (s : ByteArray) (w : World) (h : IsF B b l w) (hlen : l.length ≤ 70368744177664) (hs : s.size ≤ 70368744177664) :
    Calls Try.prog 77 #[.pointer (some ⟨b, 0, none⟩), .string s] w fun e w' => e = .returned (.tuple #[.int .i64 s.size, .nilIface]) ∧ IsF B b (l ++ s.data.toList) w' ∧ Below B w w' ∧ Lib.OthersKept 5 (some b) w w' := by
  have hlt := h.lt
  refine (Any.Builder_WriteString_k Try.lays166 Try.builderExtra166 B b _ s w h (by rw [byteCells_length]; omega) (by omega)).mono ?_
  rintro e w' ⟨rfl, h1, h2, h3⟩
  rw [byteCells_str] at h1
  exact ⟨rfl, .inr h1, h2, h3⟩

/-- what put does -/
def PtPost (B b : Nat) (l : List UInt8) (W : World) (e : Ending) (W' : World) : Prop := e = .returned (.tuple #[]) ∧ IsF B b l W' ∧ Below B W W' ∧ Lib.OthersKept 5 (some b) W W'
def PtOk (k : Nat) : Prop := ∀ (j : Js.J) (v : Value) (S : Nat → Prop) (B b : Nat) (l : List UInt8) (W : World), JVn k S W v j → (∀ c, S c → c < B) → IsF B b l W → Bd 1000000 j → Pz j → rt k j = true → l.length + (txt k j).length ≤ 1000000 →
    Calls Try.prog 81 #[.pointer (some ⟨b, 0, none⟩), v] W (PtPost B b (l ++ txt k j) W)

set_option maxRecDepth 100000 in
set_option maxHeartbeats 8000000 in
theorem jput_leaf (k : Nat) (kd n : Int) (s : List UInt8) (ns : List (List UInt8)) (xs : List Js.J) (vn vl : Value) (B b : Nat) (l : List UInt8) (W : World) (hF : IsF B b l W) (hn : -9223372036854775808 ≤ n ∧ n ≤ 9223372036854775807) (hs : s.length ≤ 500000000) (hrt : rt (k + 1) (.mk kd n s ns xs) = true) (hl : l.length + (txt (k + 1) (.mk kd n s ns xs)).length ≤ 1000000) (h5 : kd ≠ 5) (h6 : kd ≠ 6) :
    Calls Try.prog 81 #[.pointer (some ⟨b, 0, none⟩), .agg #[.int .i64 kd, .int .i64 n, str s, vn, vl]] W (PtPost B b (l ++ txt (k + 1) (.mk kd n s ns xs)) W) := by
  obtain ⟨X, hX⟩ : ∃ X, X = txt (k + 1) (.mk kd n s ns xs) := ⟨_, rfl⟩
  rw [← hX] at hl ⊢
  unfold txt at hX
  unfold rt at hrt
  simp only [Bool.and_eq_true, Bool.not_eq_true', Bool.or_eq_false_iff, decide_eq_false_iff_not] at hrt
  obtain ⟨⟨⟨⟨⟨r1, r2⟩, _⟩, _⟩, _⟩, _⟩ := hrt
  have hbx : Below W.heap.size W (W.alloc (.cells #[.int .i64 kd, .int .i64 n, .string (bs s), vn, vl] 41)) := (Below.refl _ W).alloc (Nat.le_refl _) _
  have hlt := hF.lt
  have hx := heap_alloc_new W (.cells #[.int .i64 kd, .int .i64 n, .string (bs s), vn, vl] 41)
  obtain ⟨x0, x1, x2, x3, x4⟩ := tok_cells hx
  have hFx := hF.below hbx
  have fin : ∀ (e : Ending) (w1 w2 : World), Below W.heap.size W w1 → IsF B b (l ++ X) w2 → Below B w1 w2 → Lib.OthersKept 5 (some b) w1 w2 → PtPost B b (l ++ X) W (.returned (.tuple #[])) w2 := fun e w1 w2 h1 h2 h3 h4 =>
    ⟨rfl, h2, (h1.mono (by omega)).trans h3, (okept h1).trans h4⟩
  have HFI := Lib.hid fin
  clear fin
  by_cases h0 : kd = 0
  · rw [if_pos h0] at hX
    have t0 : (kd == 0) = true := by simp [h0]
    have HX := Lib.hid hX
    clear h0 h5 h6 hX r1 r2
    go_enter Try.func81, Try.ntmps81
    go_wp2_with fail
    refine (wsk_any B b l ⟨#[110, 117, 108, 108]⟩ _ hFx (by omega) (by decide)).mono ?_
    rintro e w2 ⟨rfl, h1, h2, h3⟩
    go_wp2_with fail
    go_end0
    exact HFI.out (.returned (.tuple #[])) _ _ hbx (by rw [HX.out]; exact h1) h2 h3
  rw [if_neg h0] at hX
  have t0 : (kd == 0) = false := by simp [h0]
  by_cases h1 : kd = 1
  · rw [if_pos h1] at hX
    have t1 : (kd == 1) = true := by simp [h1]
    by_cases hn0 : n = 0
    · rw [if_pos hn0] at hX
      subst hn0
      have hix : ∀ w, (Instr.index 138 (.agg #[.string ⟨#[102, 97, 108, 115, 101]⟩, .string ⟨#[116, 114, 117, 101]⟩]) (.int .i64 0)).run Try.prog w = .ok (.string ⟨#[102, 97, 108, 115, 101]⟩) w := by intro w; kernel_rfl
      have HX := Lib.hid hX
      clear h0 h1 h5 h6 hX r1 r2
      go_enter Try.func81, Try.ntmps81
      go_wp2_with fail
      refine (wsk_any B b l ⟨#[102, 97, 108, 115, 101]⟩ _ hFx (by omega) (by decide)).mono ?_
      rintro e w2 ⟨rfl, h1, h2, h3⟩
      go_wp2_with fail
      go_end0
      exact HFI.out (.returned (.tuple #[])) _ _ hbx (by rw [HX.out]; exact h1) h2 h3
    · rw [if_neg hn0] at hX
      obtain rfl : n = 1 := by omega
      have hix : ∀ w, (Instr.index 138 (.agg #[.string ⟨#[102, 97, 108, 115, 101]⟩, .string ⟨#[116, 114, 117, 101]⟩]) (.int .i64 1)).run Try.prog w = .ok (.string ⟨#[116, 114, 117, 101]⟩) w := by intro w; kernel_rfl
      have HX := Lib.hid hX
      clear h0 h1 h5 h6 hX r1 r2 hn0
      go_enter Try.func81, Try.ntmps81
      go_wp2_with fail
      refine (wsk_any B b l ⟨#[116, 114, 117, 101]⟩ _ hFx (by omega) (by decide)).mono ?_
      rintro e w2 ⟨rfl, h1, h2, h3⟩
      go_wp2_with fail
      go_end0
      exact HFI.out (.returned (.tuple #[])) _ _ hbx (by rw [HX.out]; exact h1) h2 h3
  rw [if_neg h1] at hX
  have t1 : (kd == 1) = false := by simp [h1]
  by_cases h2 : kd = 2
  · rw [if_pos h2] at hX
    have t2 : (kd == 2) = true := by simp [h2]
    have hpr := print_any n (W.alloc (.cells #[.int .i64 kd, .int .i64 n, .string (bs s), vn, vl] 41)) hn.1 hn.2
    rw [← hX] at hpr
    clear h0 h1 h2 h5 h6 hX r1 r2
    go_enter Try.func81, Try.ntmps81
    go_wp2_with (go_at_call 18; (with_reducible refine hpr.mono ?_); rintro e w1 ⟨rfl, hb1⟩)
    have hb2 := hbx.trans (hb1.mono hbx.size)
    refine (wsk_any B b l (bs X) _ (hFx.below hb1) (by omega) (by rw [bs_size]; omega)).mono ?_
    rintro e w2 ⟨rfl, h1, h2, h3⟩
    go_wp2_with fail
    go_end0
    exact HFI.out (.returned (.tuple #[])) _ _ hb2 h1 h2 h3
  rw [if_neg h2] at hX
  have t2 : (kd == 2) = false := by simp [h2]
  by_cases h4 : kd = 4
  · rw [if_pos h4] at hX
    have t4 : (kd == 4) = true := by simp [h4]
    have hpr := quote_any (bs s) (W.alloc (.cells #[.int .i64 kd, .int .i64 n, .string (bs s), vn, vl] 41)) (by rw [bs_size]; omega)
    rw [show Tk.quote (bs s).data.toList = X from hX.symm] at hpr
    clear h0 h1 h2 h4 h5 h6 hX r1 r2
    go_enter Try.func81, Try.ntmps81
    go_wp2_with (go_at_call 38; (with_reducible refine hpr.mono ?_); rintro e w1 ⟨rfl, hb1⟩)
    have hb2 := hbx.trans (hb1.mono hbx.size)
    refine (wsk_any B b l (bs X) _ (hFx.below hb1) (by omega) (by rw [bs_size]; omega)).mono ?_
    rintro e w2 ⟨rfl, h1, h2, h3⟩
    go_wp2_with fail
    go_end0
    exact HFI.out (.returned (.tuple #[])) _ _ hb2 h1 h2 h3
  omega

end Go.Proofs.Ythbpkmmnoeikoaa

/-
  json.put of a list, of an object; json.Print. Condition: the thing is right; its text is at most a million bytes long.
-/
namespace Go.Proofs.Ythbpkmmnoeikoaa
open Go Go.RowKit
set_option linter.unusedVariables false
set_option linter.unusedSimpArgs false

theorem jits_itx (T : Js.J → List UInt8) (kd : Int) (ns : List (List UInt8)) (xs : List Js.J) (i : Nat) (h : i < xs.length) (h' : kd = 6 → i < ns.length) (l : List UInt8) :
    l ++ jits T kd ns xs (i + 1) = l ++ jits T kd ns xs i ++ ((if i = 0 then [] else [44]) ++ ((if kd = 6 then Tk.quote (ns.getD i []) ++ [58] else []) ++ T xs[i])) := by
  rw [jits_succ, ← List.append_assoc]
  unfold itx
  rw [List.getElem?_eq_getElem h]
theorem oksome {b : Nat} {w w' : World} (hk : Lib.OthersKept 5 (some b) w w') {k : Nat} {c : Array Value} {z : Nat × Nat} (h : w.heap[k]? = some (.cells c 41 z)) (hne : k ≠ b) : w'.heap[k]? = some (.cells c 41 z) :=
  hk k _ h (fun e => hne (Option.some.inj e)) (by intro c fz h; cases h)
def PtR (k : Nat) (kd : Int) (op : UInt8) (ns : List (List UInt8)) (xs : List Js.J) (B b : Nat) (l : List UInt8) (c : Array Value) (W : World) (v : Value) (w : World) : Prop :=
  ∃ i : Nat, i ≤ xs.length ∧ v = .int .i64 (i : Int) ∧ IsF B b (l ++ [op] ++ jits (txt k) kd ns xs i) w ∧ Below B W w ∧ Lib.OthersKept 5 (some b) W w ∧ W.heap.size < w.heap.size ∧ w.heap[W.heap.size]? = some (.cells c 41 (0, 0))

set_option maxRecDepth 100000 in
set_option maxHeartbeats 8000000 in
theorem jput_list (k : Nat) (IH : PtOk k) (n : Int) (s : List UInt8) (ns : List (List UInt8)) (xs : List Js.J) (v : Value) (S : Nat → Prop) (B b : Nat) (l : List UInt8) (W : World) (h : JVn (k + 1) S W v (.mk 5 n s ns xs)) (hS : ∀ c, S c → c < B) (hF : IsF B b l W) (hB : Bd 1000000 (.mk 5 n s ns xs)) (hP : Pz (.mk 5 n s ns xs)) (hrt : rt (k + 1) (.mk 5 n s ns xs) = true) (hl : l.length + (txt (k + 1) (.mk 5 n s ns xs)).length ≤ 1000000) :
    Calls Try.prog 81 #[.pointer (some ⟨b, 0, none⟩), v] W (PtPost B b (l ++ txt (k + 1) (.mk 5 n s ns xs)) W) := by
  obtain ⟨_, _, _, _, _, b1, b2, b3⟩ := hB
  obtain ⟨_, _, _, _, _, z0, z1, z2, z3⟩ := hP
  obtain ⟨vn, vl, rfl, hn, hi⟩ := h
  obtain ⟨p1, c1, rfl, hn⟩ := hn
  obtain ⟨p2, c2, rfl, hi⟩ := hi
  unfold rt at hrt
  simp only [Bool.and_eq_true, Bool.not_eq_true', Bool.or_eq_false_iff, List.all_eq_true] at hrt
  obtain ⟨⟨_, r5⟩, r6⟩ := hrt
  have hkr : ∀ i (h : i < xs.length), rt k xs[i] = true := fun i h => r6 _ (List.getElem_mem h)
  have hX : l ++ txt (k + 1) (.mk 5 n s ns xs) = l ++ [91] ++ jits (txt k) 5 ns xs xs.length ++ [93] := by unfold txt; simp
  have hXl : l.length + 1 + (jits (txt k) 5 ns xs xs.length).length + 1 ≤ 1000000 := by
    have := congrArg List.length hX
    simp only [List.length_append, List.length_singleton] at this
    omega
  rw [hX]
  have hlt := hF.lt
  have HN := Lib.hid hn
  have HI := Lib.hid hi
  have HB3 := Lib.hid b3
  have HZ3 := Lib.hid z3
  have HZ2 := Lib.hid z2
  have HKR := Lib.hid hkr
  have HC := Lib.hid (show PtOk k from IH)
  have hbx : Below W.heap.size W (W.alloc (.cells #[.int .i64 5, .int .i64 n, .string (bs s), .slice p1 ns.length c1, .slice p2 xs.length c2] 41)) := (Below.refl _ W).alloc (Nat.le_refl _) _
  have hx := heap_alloc_new W (.cells #[.int .i64 5, .int .i64 n, .string (bs s), .slice p1 ns.length c1, .slice p2 xs.length c2] 41)
  have hsz : W.heap.size < (W.alloc (.cells #[.int .i64 5, .int .i64 n, .string (bs s), .slice p1 ns.length c1, .slice p2 xs.length c2] 41)).heap.size := by simp
  obtain ⟨x0, x1, x2, x3, x4⟩ := tok_cells hx
  have hFx := hF.below hbx
  clear hn hi b3 z3 z2 hkr IH hX r5 r6 hl
  go_enter Try.func81, Try.ntmps81
  go_wp2_with fail
  refine (wbk_any B b l 91 _ hFx (by omega)).mono ?_
  rintro e w2 ⟨rfl, h1, h2, h3⟩
  have hx2 := oksome h3 hx (by omega)
  obtain ⟨x0, x1, x2, x3, x4⟩ := tok_cells hx2
  have hb2 : Below B W w2 := (hbx.mono (by omega)).trans h2
  have hk2 := (okept (b := b) hbx).trans h3
  have hs2 : W.heap.size < w2.heap.size := (Array.getElem?_eq_some_iff.1 hx2).1
  clear hx h2 h3 hFx hbx hsz
  go_wp2_with fail
  go_loopw [17] (PtR k 5 91 ns xs B b l #[.int .i64 5, .int .i64 n, .string (bs s), .slice p1 ns.length c1, .slice p2 xs.length c2] W) (fun i _ => xs.length - (intOf i).toNat)
  case atStart => exact ⟨0, Nat.zero_le _, by go_num, by rw [show jits (txt k) 5 ns xs 0 = [] from rfl, List.append_nil]; exact h1, hb2, hk2, hs2, hx2⟩
  case round =>
    clear x0 x1 x2 x3 x4 h1 hb2 hk2 hs2 hx2
    obtain ⟨i, hi, rfl, hF0, hbl, hkl, hsl, hxl⟩ := hrel
    obtain ⟨x0, x1, x2, x3, x4⟩ := tok_cells hxl
    have hlr := hF0.lt
    by_cases hlt1 : i < xs.length
    · have tl : decide ((i : Int) < (xs.length : Int)) = true := decide_eq_true (by omega)
      obtain ⟨e1, o1, d0, d1, d2, d3, d4, rfl, hs1, ⟨g0, g1, g2, g3, g4⟩, hr1⟩ := HI.out i hlt1
      obtain ⟨u0, u1, u2, u3, u4, u5, u6, u7, u8, he⟩ := hr1.form2
      simp at he
      obtain ⟨rfl, rfl, rfl, rfl, rfl⟩ := he
      have q1 := hbl.block e1 (hS e1 hs1)
      have g0 := cell_same q1 g0
      have g1 := cell_same q1 g1
      have g2 := cell_same q1 g2
      have g3 := cell_same q1 g3
      have g4 := cell_same q1 g4
      have heq := jits_itx (txt k) 5 ns xs i hlt1 (by intro h; exact absurd h (by decide)) (l ++ [91])
      have hle := jits_le (txt k) 5 ns xs (show i + 1 ≤ xs.length by omega)
      have hlen := congrArg List.length heq
      simp only [List.length_append, List.length_singleton] at hlen
      have hba : Below wr.heap.size wr (wr.alloc (.cells #[.int .i64 u0, .int .i64 u1, .string u2, .slice u3 u4 u5, .slice u6 u7 u8] 41)) := (Below.refl _ wr).alloc (Nat.le_refl _) _
      have hxa := heap_alloc_new wr (.cells #[.int .i64 u0, .int .i64 u1, .string u2, .slice u3 u4 u5, .slice u6 u7 u8] 41)
      have hx3 : (wr.alloc (.cells #[.int .i64 u0, .int .i64 u1, .string u2, .slice u3 u4 u5, .slice u6 u7 u8] 41)).heap[W.heap.size]? = _ := (hba.block _ hsl).trans hxl
      have hF3 := hF0.below hba
      have hb3 := hbl.trans (hba.mono (by omega))
      have hk3 := hkl.trans (okept (b := b) hba)
      have hcall := fun (W' : World) (l' : List UInt8) (hh : Below B W W') (hf : IsF B b l' W') (hm : l'.length + (txt k xs[i]).length ≤ 1000000) => HC.out xs[i] _ S B b l' W' (JVn.keep (fun _ h => h) (fun c hc => hh.block c (hS c hc)) _ _ _ hr1) hS hf (HB3.out i hlt1) (HZ3.out i hlt1) (HKR.out i hlt1) hm
      rw [if_neg (show ¬ ((5 : Int) = 6) by decide), List.nil_append] at heq
      rw [if_neg (show ¬ ((5 : Int) = 6) by decide), List.length_nil] at hlen
      clear q1 hr1
      by_cases h0 : i = 0
      · have ti : decide ((i : Int) > 0) = false := decide_eq_false (by omega)
        have ti2 : decide (0 < i) = false := decide_eq_false (by omega)
        rw [if_pos h0, List.nil_append] at heq
        rw [if_pos h0, List.length_nil] at hlen
        clear h0 hF0
        have HEQ := Lib.hid heq
        clear heq
        obtain ⟨x0, x1, x2, x3, x4⟩ := tok_cells hx3
        obtain ⟨a0, a1, a2, a3, a4⟩ := tok_cells hxa
        go_wp2_with fail
        refine (hcall _ _ hb3 hF3 (by simp only [List.length_append, List.length_singleton]; omega)).mono ?_
        rintro e w7 ⟨rfl, hF7, h2, h3⟩
        have hx7 := oksome h3 hx3 (by omega)
        have hb7 := hb3.trans h2
        have hk7 := hk3.trans h3
        go_wp2_with fail
        go_roundw
        case rel =>
          refine ⟨i + 1, by omega, by go_num, ?_, hb7, hk7, (Array.getElem?_eq_some_iff.1 hx7).1, hx7⟩
          rw [HEQ.out]
          simpa only [List.append_assoc] using hF7
        case measure => simp [intOf]; omega
      · have ti : decide ((i : Int) > 0) = true := decide_eq_true (by omega)
        have ti2 : decide (0 < i) = true := decide_eq_true (by omega)
        rw [if_neg h0] at heq
        rw [if_neg h0, List.length_singleton] at hlen
        clear h0 hF0
        have HEQ := Lib.hid heq
        clear heq
        go_wp2_with fail
        refine (wbk_any B b _ 44 _ hF3 (by simp only [List.length_append, List.length_singleton]; omega)).mono ?_
        rintro e w4 ⟨rfl, hF4, h2, h3⟩
        have hb4 := hb3.trans h2
        have hk4 := hk3.trans h3
        have hx4 := oksome h3 hx3 (by omega)
        have hxb := oksome h3 hxa (by omega)
        clear hxa hx3 hb3 hk3 h2 h3 x0 x1 x2 x3 x4 hF3
        obtain ⟨x0, x1, x2, x3, x4⟩ := tok_cells hx4
        obtain ⟨a0, a1, a2, a3, a4⟩ := tok_cells hxb
        go_wp2_with fail
        refine (hcall _ _ hb4 hF4 (by simp only [List.length_append, List.length_singleton]; omega)).mono ?_
        rintro e w7 ⟨rfl, hF7, h2, h3⟩
        have hx7 := oksome h3 hx4 (by omega)
        have hb7 := hb4.trans h2
        have hk7 := hk4.trans h3
        go_wp2_with fail
        go_roundw
        case rel =>
          refine ⟨i + 1, by omega, by go_num, ?_, hb7, hk7, (Array.getElem?_eq_some_iff.1 hx7).1, hx7⟩
          rw [HEQ.out]
          simpa only [List.append_assoc] using hF7
        case measure => simp [intOf]; omega
    · obtain rfl : i = xs.length := by omega
      have tl : decide ((xs.length : Int) < (xs.length : Int)) = false := decide_eq_false (by omega)
      go_wp2_with fail
      refine (wbk_any B b _ 93 _ hF0 (by simp only [List.length_append, List.length_singleton]; omega)).mono ?_
      rintro e w8 ⟨rfl, h1, h2, h3⟩
      go_wp2_with fail
      go_end0
      exact ⟨rfl, h1, hbl.trans h2, hkl.trans h3⟩

set_option maxRecDepth 100000 in
set_option maxHeartbeats 8000000 in
theorem jput_obj (k : Nat) (IH : PtOk k) (n : Int) (s : List UInt8) (ns : List (List UInt8)) (xs : List Js.J) (v : Value) (S : Nat → Prop) (B b : Nat) (l : List UInt8) (W : World) (h : JVn (k + 1) S W v (.mk 6 n s ns xs)) (hS : ∀ c, S c → c < B) (hF : IsF B b l W) (hB : Bd 1000000 (.mk 6 n s ns xs)) (hP : Pz (.mk 6 n s ns xs)) (hrt : rt (k + 1) (.mk 6 n s ns xs) = true) (hl : l.length + (txt (k + 1) (.mk 6 n s ns xs)).length ≤ 1000000) :
    Calls Try.prog 81 #[.pointer (some ⟨b, 0, none⟩), v] W (PtPost B b (l ++ txt (k + 1) (.mk 6 n s ns xs)) W) := by
  obtain ⟨_, _, _, _, _, b1, b2, b3⟩ := hB
  obtain ⟨_, _, _, _, _, z0, z1, z2, z3⟩ := hP
  obtain ⟨vn, vl, rfl, hn, hi⟩ := h
  obtain ⟨p1, c1, rfl, hn⟩ := hn
  obtain ⟨p2, c2, rfl, hi⟩ := hi
  unfold rt at hrt
  simp only [Bool.and_eq_true, Bool.not_eq_true', Bool.or_eq_false_iff, List.all_eq_true] at hrt
  obtain ⟨⟨_, r5⟩, r6⟩ := hrt
  have hnl : ns.length = xs.length := by
    by_cases h : ns.length = xs.length
    · exact h
    · simp [h] at r5
  have HNL := Lib.hid hnl
  clear hnl
  have hkr : ∀ i (h : i < xs.length), rt k xs[i] = true := fun i h => r6 _ (List.getElem_mem h)
  have hX : l ++ txt (k + 1) (.mk 6 n s ns xs) = l ++ [123] ++ jits (txt k) 6 ns xs xs.length ++ [125] := by unfold txt; simp
  have hXl : l.length + 1 + (jits (txt k) 6 ns xs xs.length).length + 1 ≤ 1000000 := by
    have := congrArg List.length hX
    simp only [List.length_append, List.length_singleton] at this
    omega
  rw [hX]
  have hlt := hF.lt
  have HN := Lib.hid hn
  have HI := Lib.hid hi
  have HB3 := Lib.hid b3
  have HZ3 := Lib.hid z3
  have HZ2 := Lib.hid z2
  have HKR := Lib.hid hkr
  have HC := Lib.hid (show PtOk k from IH)
  have hbx : Below W.heap.size W (W.alloc (.cells #[.int .i64 6, .int .i64 n, .string (bs s), .slice p1 ns.length c1, .slice p2 xs.length c2] 41)) := (Below.refl _ W).alloc (Nat.le_refl _) _
  have hx := heap_alloc_new W (.cells #[.int .i64 6, .int .i64 n, .string (bs s), .slice p1 ns.length c1, .slice p2 xs.length c2] 41)
  have hsz : W.heap.size < (W.alloc (.cells #[.int .i64 6, .int .i64 n, .string (bs s), .slice p1 ns.length c1, .slice p2 xs.length c2] 41)).heap.size := by simp
  obtain ⟨x0, x1, x2, x3, x4⟩ := tok_cells hx
  have hFx := hF.below hbx
  clear hn hi b3 z3 z2 hkr IH hX r5 r6 hl
  go_enter Try.func81, Try.ntmps81
  go_wp2_with fail
  refine (wbk_any B b l 123 _ hFx (by omega)).mono ?_
  rintro e w2 ⟨rfl, h1, h2, h3⟩
  have hx2 := oksome h3 hx (by omega)
  obtain ⟨x0, x1, x2, x3, x4⟩ := tok_cells hx2
  have hb2 : Below B W w2 := (hbx.mono (by omega)).trans h2
  have hk2 := (okept (b := b) hbx).trans h3
  have hs2 : W.heap.size < w2.heap.size := (Array.getElem?_eq_some_iff.1 hx2).1
  clear hx h2 h3 hFx hbx hsz
  go_wp2_with fail
  go_loopw [17] (PtR k 6 123 ns xs B b l #[.int .i64 6, .int .i64 n, .string (bs s), .slice p1 ns.length c1, .slice p2 xs.length c2] W) (fun i _ => xs.length - (intOf i).toNat)
  case atStart => exact ⟨0, Nat.zero_le _, by go_num, by rw [show jits (txt k) 6 ns xs 0 = [] from rfl, List.append_nil]; exact h1, hb2, hk2, hs2, hx2⟩
  case round =>
    clear x0 x1 x2 x3 x4 h1 hb2 hk2 hs2 hx2
    obtain ⟨i, hi, rfl, hF0, hbl, hkl, hsl, hxl⟩ := hrel
    obtain ⟨x0, x1, x2, x3, x4⟩ := tok_cells hxl
    have hlr := hF0.lt
    by_cases hlt1 : i < xs.length
    · have tl : decide ((i : Int) < (xs.length : Int)) = true := decide_eq_true (by omega)
      obtain ⟨e1, o1, d0, d1, d2, d3, d4, rfl, hs1, ⟨g0, g1, g2, g3, g4⟩, hr1⟩ := HI.out i hlt1
      obtain ⟨u0, u1, u2, u3, u4, u5, u6, u7, u8, he⟩ := hr1.form2
      simp at he
      obtain ⟨rfl, rfl, rfl, rfl, rfl⟩ := he
      have q1 := hbl.block e1 (hS e1 hs1)
      have g0 := cell_same q1 g0
      have g1 := cell_same q1 g1
      have g2 := cell_same q1 g2
      have g3 := cell_same q1 g3
      have g4 := cell_same q1 g4
      have heq := jits_itx (txt k) 6 ns xs i hlt1 (by intro _; have := HNL.out; omega) (l ++ [123])
      have hle := jits_le (txt k) 6 ns xs (show i + 1 ≤ xs.length by omega)
      have hlen := congrArg List.length heq
      simp only [List.length_append, List.length_singleton] at hlen
      have hba : Below wr.heap.size wr (wr.alloc (.cells #[.int .i64 u0, .int .i64 u1, .string u2, .slice u3 u4 u5, .slice u6 u7 u8] 41)) := (Below.refl _ wr).alloc (Nat.le_refl _) _
      have hxa := heap_alloc_new wr (.cells #[.int .i64 u0, .int .i64 u1, .string u2, .slice u3 u4 u5, .slice u6 u7 u8] 41)
      have hx3 : (wr.alloc (.cells #[.int .i64 u0, .int .i64 u1, .string u2, .slice u3 u4 u5, .slice u6 u7 u8] 41)).heap[W.heap.size]? = _ := (hba.block _ hsl).trans hxl
      have hF3 := hF0.below hba
      have hb3 := hbl.trans (hba.mono (by omega))
      have hk3 := hkl.trans (okept (b := b) hba)
      have hcall := fun (W' : World) (l' : List UInt8) (hh : Below B W W') (hf : IsF B b l' W') (hm : l'.length + (txt k xs[i]).length ≤ 1000000) => HC.out xs[i] _ S B b l' W' (JVn.keep (fun _ h => h) (fun c hc => hh.block c (hS c hc)) _ _ _ hr1) hS hf (HB3.out i hlt1) (HZ3.out i hlt1) (HKR.out i hlt1) hm
      rw [if_pos (rfl : (6 : Int) = 6)] at heq
      rw [if_pos trivial] at hlen
      have hlq : i < ns.length := by have := HNL.out; omega
      have hge : ns.getD i [] = ns[i] := by simp [List.getD, List.getElem?_eq_getElem hlq]
      rw [hge] at heq hlen
      obtain ⟨e2, o2, rfl, hs2, hn1⟩ := HN.out i hlq
      have hzl := HZ2.out ns[i] (List.getElem_mem hlq)
      have hzl2 : (i : Int) < (ns.length : Int) := by omega
      obtain ⟨Q, hQ⟩ : ∃ Q, Q = Tk.quote ns[i] := ⟨_, rfl⟩
      rw [← hQ] at heq hlen
      have hqe : ∀ W', (fun (e : Ending) (w' : World) => e = .returned (str (Tk.quote (bs ns[i]).data.toList)) ∧ Below W'.heap.size W' w') = fun e w' => e = .returned (.string (bs Q)) ∧ Below W'.heap.size W' w' := fun W' => by rw [hQ]; rfl
      clear hQ
      have bsd : (bs Q ++ ⟨#[58]⟩ : ByteArray).data.toList = Q ++ [58] := by rw [show (⟨#[58]⟩ : ByteArray) = bs [58] from rfl, bs_append]; rfl
      simp only [List.length_append, List.length_singleton] at hlen
      have zq : (bs Q).size = Q.length := bs_size Q
      have hql : Q.length ≤ 1000000 := by omega
      have hadd : ∀ W', (Op.stringOp .add (bs Q) ⟨#[58]⟩).run Try.prog W' = .ok (.string (bs Q ++ ⟨#[58]⟩)) W' := fun W' => run_string_add_sum W' _ _ (by rw [zq]; show _ + 1 ≤ _; omega)
      clear q1 hr1
      by_cases h0 : i = 0
      · have ti : decide ((i : Int) > 0) = false := decide_eq_false (by omega)
        have ti2 : decide (0 < i) = false := decide_eq_false (by omega)
        rw [if_pos h0, List.nil_append] at heq
        rw [if_pos h0, List.length_nil] at hlen
        clear h0 hF0
        have HEQ := Lib.hid heq
        clear heq
        obtain ⟨x0, x1, x2, x3, x4⟩ := tok_cells hx3
        obtain ⟨a0, a1, a2, a3, a4⟩ := tok_cells hxa
        have hqu := fun W' => quote_any (bs ns[i]) W' (by rw [bs_size]; omega)
        simp only [hqe] at hqu
        have hn2 := cell_same (hb3.block e2 (hS e2 hs2)) hn1
        go_wp2_with (go_at_call 38; (with_reducible refine (hqu _).mono ?_); rintro e w5 ⟨rfl, hb5⟩)
        go_wp2_with fail
        have hfb := hF3.below hb5
        have s1 : (l ++ [123] ++ jits (txt k) 6 ns xs i).length ≤ 70368744177664 := by (simp only [List.length_append, List.length_singleton]; omega)
        have s2 : (bs Q ++ ⟨#[58]⟩ : ByteArray).size ≤ 70368744177664 := by (rw [ByteArray.size_append, bs_size]; show _ + 1 ≤ _; omega)
        have hw := wsk_any B b _ (bs Q ++ ⟨#[58]⟩) _ hfb s1 s2
        refine hw.mono ?_
        rintro e w6 ⟨rfl, hF6, h2, h3⟩
        have hls := (hF3).lt
        have hb6 := (hb3.trans (hb5.mono (by omega))).trans h2
        have hk6 := (hk3.trans (okept (b := b) hb5)).trans h3
        have hx6 := oksome h3 ((hb5.block _ (Array.getElem?_eq_some_iff.1 hx3).1).trans hx3) (by omega)
        have hxc := oksome h3 ((hb5.block _ (Array.getElem?_eq_some_iff.1 hxa).1).trans hxa) (by omega)
        clear h2 h3 x0 x1 x2 x3 x4 a0 a1 a2 a3 a4
        obtain ⟨x0, x1, x2, x3, x4⟩ := tok_cells hx6
        obtain ⟨a0, a1, a2, a3, a4⟩ := tok_cells hxc
        go_wp2_with fail
        refine (hcall _ _ hb6 hF6 (by rw [bsd]; simp only [List.length_append, List.length_singleton]; omega)).mono ?_
        rintro e w7 ⟨rfl, hF7, h2, h3⟩
        have hx7 := oksome h3 hx6 (by omega)
        have hb7 := hb6.trans h2
        have hk7 := hk6.trans h3
        go_wp2_with fail
        go_roundw
        case rel =>
          refine ⟨i + 1, by omega, by go_num, ?_, hb7, hk7, (Array.getElem?_eq_some_iff.1 hx7).1, hx7⟩
          rw [HEQ.out]
          rw [bsd] at hF7
          simpa only [List.append_assoc] using hF7
        case measure => simp [intOf]; omega
      · have ti : decide ((i : Int) > 0) = true := decide_eq_true (by omega)
        have ti2 : decide (0 < i) = true := decide_eq_true (by omega)
        rw [if_neg h0] at heq
        rw [if_neg h0, List.length_singleton] at hlen
        clear h0 hF0
        have HEQ := Lib.hid heq
        clear heq
        go_wp2_with fail
        refine (wbk_any B b _ 44 _ hF3 (by simp only [List.length_append, List.length_singleton]; omega)).mono ?_
        rintro e w4 ⟨rfl, hF4, h2, h3⟩
        have hb4 := hb3.trans h2
        have hk4 := hk3.trans h3
        have hx4 := oksome h3 hx3 (by omega)
        have hxb := oksome h3 hxa (by omega)
        clear hxa hx3 hb3 hk3 h2 h3 x0 x1 x2 x3 x4 hF3
        obtain ⟨x0, x1, x2, x3, x4⟩ := tok_cells hx4
        obtain ⟨a0, a1, a2, a3, a4⟩ := tok_cells hxb
        have hqu := fun W' => quote_any (bs ns[i]) W' (by rw [bs_size]; omega)
        simp only [hqe] at hqu
        have hn2 := cell_same (hb4.block e2 (hS e2 hs2)) hn1
        go_wp2_with (go_at_call 38; (with_reducible refine (hqu _).mono ?_); rintro e w5 ⟨rfl, hb5⟩)
        go_wp2_with fail
        have hfb := hF4.below hb5
        have s1 : (l ++ [123] ++ jits (txt k) 6 ns xs i ++ [44]).length ≤ 70368744177664 := by (simp only [List.length_append, List.length_singleton]; omega)
        have s2 : (bs Q ++ ⟨#[58]⟩ : ByteArray).size ≤ 70368744177664 := by (rw [ByteArray.size_append, bs_size]; show _ + 1 ≤ _; omega)
        have hw := wsk_any B b _ (bs Q ++ ⟨#[58]⟩) _ hfb s1 s2
        refine hw.mono ?_
        rintro e w6 ⟨rfl, hF6, h2, h3⟩
        have hls := (hF4).lt
        have hb6 := (hb4.trans (hb5.mono (by omega))).trans h2
        have hk6 := (hk4.trans (okept (b := b) hb5)).trans h3
        have hx6 := oksome h3 ((hb5.block _ (Array.getElem?_eq_some_iff.1 hx4).1).trans hx4) (by omega)
        have hxc := oksome h3 ((hb5.block _ (Array.getElem?_eq_some_iff.1 hxb).1).trans hxb) (by omega)
        clear h2 h3 x0 x1 x2 x3 x4 a0 a1 a2 a3 a4
        obtain ⟨x0, x1, x2, x3, x4⟩ := tok_cells hx6
        obtain ⟨a0, a1, a2, a3, a4⟩ := tok_cells hxc
        go_wp2_with fail
        refine (hcall _ _ hb6 hF6 (by rw [bsd]; simp only [List.length_append, List.length_singleton]; omega)).mono ?_
        rintro e w7 ⟨rfl, hF7, h2, h3⟩
        have hx7 := oksome h3 hx6 (by omega)
        have hb7 := hb6.trans h2
        have hk7 := hk6.trans h3
        go_wp2_with fail
        go_roundw
        case rel =>
          refine ⟨i + 1, by omega, by go_num, ?_, hb7, hk7, (Array.getElem?_eq_some_iff.1 hx7).1, hx7⟩
          rw [HEQ.out]
          rw [bsd] at hF7
          simpa only [List.append_assoc] using hF7
        case measure => simp [intOf]; omega
    · obtain rfl : i = xs.length := by omega
      have tl : decide ((xs.length : Int) < (xs.length : Int)) = false := decide_eq_false (by omega)
      go_wp2_with fail
      refine (wbk_any B b _ 125 _ hF0 (by simp only [List.length_append, List.length_singleton]; omega)).mono ?_
      rintro e w8 ⟨rfl, h1, h2, h3⟩
      go_wp2_with fail
      go_end0
      exact ⟨rfl, h1, hbl.trans h2, hkl.trans h3⟩

theorem jput_any : ∀ k : Nat, PtOk k
  | 0 => fun _ _ _ _ _ _ _ h _ _ _ _ _ _ => h.elim
  | k + 1 => by
    intro j v S B b l W h hS hF hB hP hrt hl
    obtain ⟨kd, n, s, ns, xs⟩ := j
    by_cases h5 : kd = 5
    · subst h5
      exact jput_list k (jput_any k) n s ns xs v S B b l W h hS hF hB hP hrt hl
    by_cases h6 : kd = 6
    · subst h6
      exact jput_obj k (jput_any k) n s ns xs v S B b l W h hS hF hB hP hrt hl
    obtain ⟨vn, vl, rfl, _⟩ := h
    obtain ⟨_, _, _, _, _, z0, z1, z2, z3⟩ := hP
    exact jput_leaf k kd n s ns xs vn vl B b l W hF z0 z1 hrt hl h5 h6

end Go.Proofs.Ythbpkmmnoeikoaa

/-
  What lies while an object's member is read: the list's, and a set of names. No condition.
-/
namespace Go.Proofs.Ythbpkmmnoeikoaa
open Go Go.RowKit
set_option linter.unusedVariables false
set_option linter.unusedSimpArgs false

theorem SetM.same {W W' : World} {b : Nat} {ns : List (List UInt8)} (h : SetM W b ns) (he : W'.heap[b]? = W.heap[b]?) : SetM W' b ns := by
  obtain ⟨D, n, hn, ⟨es, clock, h1, h2⟩, ha⟩ := h
  exact ⟨D, n, hn, ⟨es, clock, he.trans h1, h2⟩, ha⟩

/-- what an object's row has besides: the reader's box, the result, the set of names -/
structure ObF (w0 : World) (rb : Nat) (ns : List (List UInt8)) (W : World) : Prop where
  box : W.heap[w0.heap.size]? = some (.cells #[.pointer (some ⟨rb, 0, none⟩)] 79 (0, 0))
  res : W.heap[w0.heap.size + 1]? = some (.cells #[.int .i64 0, .int .i64 0, .string ⟨#[]⟩, .slice none 0 0, .slice none 0 0] 41 (0, 0))
  had : W.heap[w0.heap.size + 4]? = some (.cells #[.map (some (w0.heap.size + 3))] 122 (0, 0))
  set : SetM W (w0.heap.size + 3) ns
theorem ObF.same {w0 W W' : World} {rb : Nat} {ns : List (List UInt8)} (h : ObF w0 rb ns W) (he : ∀ b, w0.heap.size ≤ b → b < w0.heap.size + 5 → b ≠ w0.heap.size + 2 → W'.heap[b]? = W.heap[b]?) : ObF w0 rb ns W' :=
  ⟨(he _ (by omega) (by omega) (by omega)).trans h.box, (he _ (by omega) (by omega) (by omega)).trans h.res, (he _ (by omega) (by omega) (by omega)).trans h.had, h.set.same (he _ (by omega) (by omega) (by omega))⟩
/-- between two members -/
def LO (w0 : World) (rb m : Nat) (q : Js.St) (W : World) : Prop := LI w0 W rb 6 (w0.heap.size + 5) m q W ∧ q.1.length = m ∧ ObF w0 rb q.1 W

section
variable {w0 wi W W' : World} {rb bs n : Nat} {kd : Int} {ns : List (List UInt8)} {xs : List Js.J} {vs : List Value} {ex : List (Value × Js.J)} {vn vx vl : Value} {cs : List Value}
theorem Xg.base (h : Xg w0 wi rb kd bs ns xs vs ex vn vx vl n cs W) : Xg w0 W rb kd bs ns xs vs ex vn vx vl n cs W := by
  obtain ⟨D, k, h⟩ := h
  exact ⟨D, k, ⟨h.gr, h.x, fun _ _ _ _ => rfl, h.nm, h.own, h.kidl, h.kid, h.exk, h.dom, h.ne, h.size⟩⟩
/-- a block of the frame is written -/
theorem Xg.low {c : Nat} (h : Xg w0 wi rb kd bs ns xs vs ex vn vx vl n cs W) (hg : W.grownBy W' (some c)) (h1 : w0.heap.size + 3 ≤ c) (h2 : c < bs) (h0 : rb < w0.heap.size) : Xg w0 W' rb kd bs ns xs vs ex vn vx vl n cs W' := by
  obtain ⟨D, k, h⟩ := h
  have hs := h.size
  have hD : ∀ b, D b → W'.heap[b]? = W.heap[b]? := fun b hb => by
    obtain ⟨d1, d2, _⟩ := h.dom b hb
    exact hg.block b d2 (fun e => by cases e; omega)
  have hne : ∀ (v : Value) (e : TypeId) (size m : Nat) (ys : List Value), W.ownsRow bs e size v m ys → W'.ownsRow bs e size v m ys := fun v e size m ys hv =>
    hv.kept hg (by
      cases hb : v.ownBlock with
      | none => exact .inl rfl
      | some g => exact .inr (fun e => by cases e; have := (hv.lt _ hb).1; omega))
  have hgr := h.gr
  refine ⟨D, k, ⟨⟨hg.os.trans hgr.os, hg.tape.trans hgr.tape, hg.output.trans hgr.output, Nat.le_trans hgr.size hg.size, fun b hb hx => (hg.block b (by omega) (fun e => by cases e; omega)).trans (hgr.block b hb hx)⟩, (hg.block _ (by omega) (fun e => by cases e; omega)).trans h.x, fun _ _ _ _ => rfl,
    hne _ _ _ _ _ h.nm, hne _ _ _ _ _ h.own, h.kidl, fun i h1 h2 => JVn.keep (fun _ h => h) hD _ _ _ (h.kid i h1 h2), fun p hp => JVn.keep (fun _ h => h) hD _ _ _ (h.exk p hp), fun b hb => by
      obtain ⟨d1, d2, d3⟩ := h.dom b hb
      exact ⟨d1, Nat.lt_of_lt_of_le d2 hg.size, d3⟩, h.ne, Nat.le_trans hs hg.size⟩⟩
/-- a name more -/
theorem Xg.names {g cap : Nat} {a : List UInt8} (h : Xg w0 wi rb kd bs ns xs vs ex vn vx vl n cs W) (h0 : rb < w0.heap.size) (h3 : w0.heap.size + 3 ≤ bs)
    (hown : W'.ownsRow bs 9 1 (.slice (some ⟨g, 0, none⟩) (ns.length + 1) cap) (ns.length + 1) (ns.map str ++ [str a])) (hg : W.grownBy W' vn.ownBlock) (hor : vn.ownBlock = some g ∨ g = W.heap.size) :
    Xg w0 wi rb kd bs (ns ++ [a]) xs vs ex (.slice (some ⟨g, 0, none⟩) (ns.length + 1) cap) vx vl n cs (W'.setCell ⟨w0.heap.size + 2, 3, none⟩ (.slice (some ⟨g, 0, none⟩) (ns.length + 1) cap)) := by
  obtain ⟨D, k, h⟩ := h
  have hs := h.size
  have hvn : ∀ b, vn.ownBlock = some b → bs ≤ b ∧ b < W.heap.size := h.nm.lt
  have hD : ∀ b, D b → W'.heap[b]? = W.heap[b]? := fun b hb => by
    obtain ⟨d1, d2, _, d4⟩ := h.dom b hb
    exact hg.block b d2 (fun e => d4 e.symm)
  have hlow : ∀ b, b < bs → W'.heap[b]? = W.heap[b]? := fun b hb => hg.block b (by omega) (fun e => by have := (hvn b e.symm).1; omega)
  have hx' : W'.heap[w0.heap.size + 2]? = _ := (hlow _ (by omega)).trans h.x
  have ho : ∀ b, b ≠ w0.heap.size + 2 → (W'.setCell ⟨w0.heap.size + 2, 3, none⟩ (.slice (some ⟨g, 0, none⟩) (ns.length + 1) cap)).heap[b]? = W'.heap[b]? := fun b hb => heap_setCell_other W' ⟨w0.heap.size + 2, 3, none⟩ b _ hb
  have hsz : (W'.setCell ⟨w0.heap.size + 2, 3, none⟩ (.slice (some ⟨g, 0, none⟩) (ns.length + 1) cap)).heap.size = W'.heap.size := by simp [World.setCell]
  have hg2 := gb_set (gb_of (r := some (w0.heap.size + 2)) (Below.refl W'.heap.size W')) 3 (.slice (some ⟨g, 0, none⟩) (ns.length + 1) cap)
  have hne : ∀ (u : Value) (e : TypeId) (size m : Nat) (ys : List Value), W'.ownsRow bs e size u m ys → (W'.setCell ⟨w0.heap.size + 2, 3, none⟩ (.slice (some ⟨g, 0, none⟩) (ns.length + 1) cap)).ownsRow bs e size u m ys := fun u e size m ys hv =>
    hv.kept hg2 (by
      cases hb : u.ownBlock with
      | none => exact .inl rfl
      | some g => exact .inr (fun e => by cases e; have := (hv.lt _ hb).1; omega))
  have hgr := h.gr
  have hgs := hg.size
  have hD2 : ∀ b, D b → (W'.setCell ⟨w0.heap.size + 2, 3, none⟩ (.slice (some ⟨g, 0, none⟩) (ns.length + 1) cap)).heap[b]? = W.heap[b]? := fun b hb => (ho b (by have := (h.dom b hb).1; omega)).trans (hD b hb)
  refine ⟨D, k, ⟨⟨hg.os.trans hgr.os, hg.tape.trans hgr.tape, hg.output.trans hgr.output, by rw [hsz]; exact Nat.le_trans hgr.size hgs, fun b hb hx => (ho b (by omega)).trans ((hlow b (by omega)).trans (hgr.block b hb hx))⟩, row_set hx' 3 _,
    fun b h1 h2 h4 => (ho b h4).trans ((hlow b h1).trans (h.fr b h1 h2 h4)), ?_, hne _ _ _ _ _ (h.own.kept hg ?_), h.kidl, fun i h1 h2 => JVn.keep (fun _ h => h) hD2 _ _ _ (h.kid i h1 h2), fun p hp => JVn.keep (fun _ h => h) hD2 _ _ _ (h.exk p hp), ?_, ?_, by rw [hsz]; omega⟩⟩
  · rw [List.length_append, List.length_singleton, List.map_append]
    exact hne _ _ _ _ _ hown
  · cases hb : vl.ownBlock with
    | none => exact .inl rfl
    | some b => exact .inr (fun e => h.ne b e.symm hb)
  · intro b hb
    obtain ⟨d1, d2, d3, d4⟩ := h.dom b hb
    refine ⟨d1, by rw [hsz]; omega, d3, fun e => ?_⟩
    simp only [Value.ownBlock, Option.some.injEq] at e
    rcases hor with hor | hor
    · rw [← e] at d4; exact d4 hor
    · omega
  · intro b hb e
    simp only [Value.ownBlock, Option.some.injEq] at hb
    subst hb
    rcases hor with hor | hor
    · exact h.ne _ hor e
    · have := (h.own.lt _ e).2
      omega
end

end Go.Proofs.Ythbpkmmnoeikoaa

/-
  An object's next member (the reader's second closure), where its name or its colon is wrong. Condition: as XJsonRow's.
-/
namespace Go.Proofs.Ythbpkmmnoeikoaa
open Go Go.RowKit Go.Deep
set_option linter.unusedVariables false
set_option linter.unusedSimpArgs false

theorem ob_cells {w0 W : World} {rb : Nat} {ns : List (List UInt8)} (h : ObF w0 rb ns W) : W.cell? ⟨w0.heap.size, 0, none⟩ = some (.pointer (some ⟨rb, 0, none⟩)) ∧ W.cell? ⟨w0.heap.size + 4, 0, none⟩ = some (.map (some (w0.heap.size + 3))) :=
  ⟨(cell_of_row _ _ 0 _ _ (0, 0) h.box).trans rfl, (cell_of_row _ _ 0 _ _ (0, 0) h.had).trans rfl⟩
/-- behind the set's change -/
theorem ob_told {w0 W W' : World} {rb : Nat} {ns : List (List UInt8)} {a : List UInt8} (h : ObF w0 rb ns W) (hs : SetM W' (w0.heap.size + 3) (ns ++ [a])) (hg : W.grownBy W' (some (w0.heap.size + 3))) (hsz : w0.heap.size + 5 ≤ W.heap.size) : ObF w0 rb (ns ++ [a]) W' :=
  ⟨(hg.block _ (by omega) (by simp)).trans h.box, (hg.block _ (by omega) (by simp)).trans h.res, (hg.block _ (by omega) (by simp)).trans h.had, hs⟩
theorem ob_reader {w0 W W' : World} {rb : Nat} {ns : List (List UInt8)} (h : ObF w0 rb ns W) (hg : W.grownBy W' (some rb)) (h0 : rb < w0.heap.size) (hsz : w0.heap.size + 5 ≤ W.heap.size) : ObF w0 rb ns W' :=
  h.same (fun b h1 h2 _ => hg.block b (by omega) (fun e => by cases e; omega))

set_option maxRecDepth 100000 in
set_option maxHeartbeats 8000000 in
theorem joneO_key (s : ByteArray) (rb : Nat) (d : Int) (th : Tk.Tok → Js.Re (Js.J × Tk.Tok)) (w0 : World) (h0 : rb < w0.heap.size) (hs : s.size ≤ 4294967280) (m : Nat) (q : Js.St) (t : Tk.Tok) (W : World) (hm : m ≤ 100000) (ht : t.end' ≤ s.size) (hts : t.s.length ≤ maxLen)
    (hI : LO w0 rb m q W) (hr : RdC W rb s t d) (o : Option (Nat × Int)) (hk : Js.key s.data.toList q.1 t = .error o) :
    Calls Try.prog 84 #[.pointer (some ⟨w0.heap.size, 0, none⟩), .pointer (some ⟨w0.heap.size + 4, 0, none⟩), .pointer (some ⟨w0.heap.size + 2, 0, none⟩)] W (OnPost rb s d (LO w0 rb (m + 1)) (fun W' => w0.grownBy W' (some rb)) (Js.oneO s.data.toList th q t)) := by
  obtain ⟨⟨hlen, vs, vn, vl, hX⟩, hln, hO⟩ := hI
  obtain ⟨b0, m0⟩ := ob_cells hO
  obtain ⟨c0, c1, c2, c3, c4, c5, c6⟩ := rd_cells hr
  have hgW : w0.grownBy W (some rb) := by obtain ⟨D, k, h⟩ := hX; exact h.gr
  have hbs : w0.heap.size + 5 ≤ W.heap.size := xg_size hX
  obtain ⟨R, hR⟩ : ∃ R, R = Js.oneO s.data.toList th q t := ⟨_, rfl⟩
  rw [← hR]
  unfold Js.oneO at hR
  rw [hk] at hR
  dsimp only at hR
  unfold Js.key at hk
  have hrd : RdC W.drew rb s t d := hr
  have hgWd : w0.grownBy W.drew (some rb) := hgW.trans (gb_of ((Below.refl _ W).drew))
  by_cases h7 : t.kind = 7
  · rw [if_neg (by simp [h7])] at hk
    have t7 : ((t.kind : Int) == 7) = true := by simp [h7]
    have hm7 := jmust_any s rb t d true 2 W.drew hrd
    by_cases hin : t.s ∈ q.1
    · rw [if_pos hin] at hk
      obtain rfl : some (t.at', (6 : Int)) = o := by cases hk; rfl
      have hlk := (show SetM W.drew (w0.heap.size + 3) q.1 from hO.set).asked t.s hts
      rw [decide_eq_true hin] at hlk
      have hm6 := jmust_any s rb t d false 6 W.drew hrd
      have HR := Lib.hid hR
      clear hR hk h7 hin hX hO
      go_enter Try.func84, Try.ntmps84
      go_wp2_with fail
      go_region_with (go_at_call 49; (with_reducible refine hm7.mono ?_); rintro e w1 ⟨rfl, rfl⟩)
      all_goals (
        go_wp2_with fail
        refine hm6.mono ?_
        rintro e w1 ⟨rfl, rfl⟩
        exact ⟨rfl, .inr ⟨_, HR.out, rfl, hgWd⟩⟩)
    · have t7' := t7
      rw [if_neg hin] at hk
      have hm7q : ∀ n, Calls Try.prog 49 #[.pointer (some ⟨rb, 0, none⟩), .bool true, .int .i64 2] (W.drewN n) fun e w' => e = .returned (.tuple #[]) ∧ w' = W.drewN n := fun n =>
        (jmust_any s rb t d true 2 (W.drewN n) hr).mono (fun e w' h => ⟨h.2, h.1.symm⟩)
      have hlkq : ∀ n, (Instr.lookup 122 (.map (some (w0.heap.size + 3))) (str t.s) false).run Try.prog (W.drewN n) = .ok (.bool false) (W.drewN n) := fun n => by
        have h := (show SetM (W.drewN n) (w0.heap.size + 3) q.1 from hO.set).asked t.s hts
        rw [decide_eq_false hin] at h
        exact h
      have HIN := Lib.hid hin
      clear hin hm7 h7
      cases hx : Js.nx s.data.toList t with
      | error o1 =>
        rw [hx] at hk
        obtain rfl : o1 = o := by cases hk; rfl
        have HX := Lib.hid hx
        have HR := Lib.hid hR
        clear hR hk hx
        go_enter Try.func84, Try.ntmps84
        go_wp2_with fail
        go_quiet ((go_at_call 49; exact Calls.quiet_of_same (hm7q _)))
        have hrq : RdC (W.drewN nq) rb s t d := hr
        have hOq : ObF w0 rb q.1 (W.drewN nq) := hO.same (fun _ _ _ _ => rfl)
        have hXq := hX.below (below_drewN (Below.refl _ W) nq) h0 (by omega)
        have hgq : w0.grownBy (W.drewN nq) (some rb) := hgW.trans (gb_of (below_drewN (Below.refl _ W) nq))
        have hlk := hlkq nq
        have hbq : w0.heap.size + 5 ≤ (W.drewN nq).heap.size := hbs
        clear hlkq hm7q hX hO hr hgW hrd hgWd b0 m0 c0 c1 c2 c3 c4 c5 c6 hbs
        generalize W.drewN nq = Wd at *
        obtain ⟨b0, m0⟩ := ob_cells hOq
        obtain ⟨c0, c1, c2, c3, c4, c5, c6⟩ := rd_cells hrq
        have hm6 := jmust_any s rb t d true 6 Wd hrq
        go_wp2_with fail
        refine hm6.mono ?_
        rintro e w1 ⟨rfl, rfl⟩
        clear hm6
        go_wp2_with (at_mapUpdate; refine wpList_told _ rfl _ _ _ rfl _ q.1 rfl hOq.set (by unfold maxLen; omega) t.s hts rfl rfl ?_; intro w2 hs2 hg2; have hO2 := ob_told hOq hs2 hg2 hbq; obtain ⟨b0b, m0b⟩ := ob_cells hO2)
        have hr2 := rd_app hrq hg2 (by simp; omega)
        have hX2 := hXq.low hg2 (by omega) (by omega) h0
        have hb2 : w0.heap.size + 5 ≤ w2.heap.size := xg_size hX2
        have hgr2 : w0.grownBy w2 (some rb) := by obtain ⟨D, k, h⟩ := hX2; exact h.gr
        clear hlk b0 m0 c0 c1 c2 c3 c4 c5 c6 hXq hOq hrq hgq hbq hs2 hg2
        have hn := jnext_post s rb t d w2 hs ht hr2
        rw [HX.out] at hn
        go_wp2_with fail
        refine hn.mono ?_
        rintro e w3 ⟨hg3, ⟨t2, hx, _⟩ | ⟨p, hx, rfl⟩⟩
        · cases hx
        · cases hx
          exact ⟨rfl, .inr ⟨_, HR.out, rfl, hgr2.trans hg3⟩⟩
      | ok t1 =>
        rw [hx] at hk
        dsimp only at hk
        have ht1 := (Js.nx_wf hx (by rw [len_data]; exact ht)).1
        rw [len_data] at ht1
        have HX := Lib.hid hx
        have HR := Lib.hid hR
        have HKK := Lib.hid hk
        clear hR hk hx
        go_enter Try.func84, Try.ntmps84
        go_wp2_with fail
        go_quiet ((go_at_call 49; exact Calls.quiet_of_same (hm7q _)))
        have hrq : RdC (W.drewN nq) rb s t d := hr
        have hOq : ObF w0 rb q.1 (W.drewN nq) := hO.same (fun _ _ _ _ => rfl)
        have hXq := hX.below (below_drewN (Below.refl _ W) nq) h0 (by omega)
        have hgq : w0.grownBy (W.drewN nq) (some rb) := hgW.trans (gb_of (below_drewN (Below.refl _ W) nq))
        have hlk := hlkq nq
        have hbq : w0.heap.size + 5 ≤ (W.drewN nq).heap.size := hbs
        clear hlkq hm7q hX hO hr hgW hrd hgWd b0 m0 c0 c1 c2 c3 c4 c5 c6 hbs
        generalize W.drewN nq = Wd at *
        obtain ⟨b0, m0⟩ := ob_cells hOq
        obtain ⟨c0, c1, c2, c3, c4, c5, c6⟩ := rd_cells hrq
        have hm6 := jmust_any s rb t d true 6 Wd hrq
        go_wp2_with fail
        refine hm6.mono ?_
        rintro e w1 ⟨rfl, rfl⟩
        clear hm6
        go_wp2_with (at_mapUpdate; refine wpList_told _ rfl _ _ _ rfl _ q.1 rfl hOq.set (by unfold maxLen; omega) t.s hts rfl rfl ?_; intro w2 hs2 hg2; have hO2 := ob_told hOq hs2 hg2 hbq; obtain ⟨b0b, m0b⟩ := ob_cells hO2)
        have hr2 := rd_app hrq hg2 (by simp; omega)
        have hX2 := hXq.low hg2 (by omega) (by omega) h0
        have hb2 : w0.heap.size + 5 ≤ w2.heap.size := xg_size hX2
        have hgr2 : w0.grownBy w2 (some rb) := by obtain ⟨D, k, h⟩ := hX2; exact h.gr
        clear hlk b0 m0 c0 c1 c2 c3 c4 c5 c6 hXq hOq hrq hgq hbq hs2 hg2
        have hn := jnext_post s rb t d w2 hs ht hr2
        rw [HX.out] at hn
        go_wp2_with fail
        refine hn.mono ?_
        rintro e w3 ⟨hg3, ⟨t2, hx, rfl, hr3⟩ | ⟨p, hx, _⟩⟩
        case inr => cases hx
        cases hx
        have hO3 := ob_reader hO2 hg3 h0 hb2
        clear hn b0b m0b
        obtain ⟨b0, m0⟩ := ob_cells hO3
        have hne := jneed_any s rb t1 d 5 w3 hs ht1 hr3
        go_wp2_with fail
        refine hne.mono ?_
        have hk := HKK.out
        rintro e w4 (⟨h5, hg4, ⟨t2, hx, rfl, hr4⟩ | ⟨p, hx, rfl⟩⟩ | ⟨h5, rfl, rfl⟩)
        · rw [if_neg (by simp [h5]), hx] at hk
          cases hk
        · rw [if_neg (by simp [h5]), hx] at hk
          cases hk
          exact ⟨rfl, .inr ⟨_, HR.out, rfl, (hgr2.trans hg3).trans hg4⟩⟩
        · rw [if_pos h5] at hk
          cases hk
          exact ⟨rfl, .inr ⟨_, HR.out, rfl, hgr2.trans hg3⟩⟩
  · rw [if_pos h7] at hk
    obtain rfl : some (t.at', (2 : Int)) = o := by cases hk; rfl
    have t7 : ((t.kind : Int) == 7) = false := by simp; omega
    have hm7 := jmust_any s rb t d false 2 W.drew hrd
    have HR := Lib.hid hR
    clear hR hk h7 hX hO
    go_enter Try.func84, Try.ntmps84
    go_wp2_with fail
    go_region_dies
    all_goals (
      refine hm7.mono ?_
      rintro e w1 ⟨rfl, rfl⟩
      exact ⟨rfl, .inr ⟨_, HR.out, rfl, hgWd⟩⟩)

end Go.Proofs.Ythbpkmmnoeikoaa
