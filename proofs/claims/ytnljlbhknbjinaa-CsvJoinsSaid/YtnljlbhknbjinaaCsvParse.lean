/-
  csv.Parse: a text's rows, the place up to which it was read, and what it is wrong by: Cs.parse. Condition: the text is shorter than 2^32 - 15 bytes.
-/
import Derived.Test.YtnljlbhknbjinaaCsvPieces
import Derived.Test.YtnljlbhknbjinaaNest
import Derived.Deep.RegionHeld3
import Derived.Deep.AppendLies
import Derived.Maps.OwnIn
namespace Go.Proofs.Ytnljlbhknbjinaa
open Go.RowKit Go.Shelf
attribute [local go_sem] Oper.semAt_some
set_option linter.unusedVariables false
set_option linter.unusedSimpArgs false

theorem pcs_len : ∀ (n : Nat) (l : Cs.F) (i : Nat), (Cs.pcs n l i).length ≤ n
  | 0, _, _ => by simp [Cs.pcs]
  | n + 1, l, i => by
    rw [pcs_cons]
    split
    · simp
    · have := pcs_len n (l.drop (Cs.fld l).2.2) (i + (Cs.fld l).2.2)
      simp; exact this

theorem parse_stop {l : Cs.F} {pre : List Cs.P} {x : Cs.P} (hl : l ≠ []) (h : pre ++ [x] <+: Cs.pcs (l.length + 1) l 0) (hx : x.2.1 = 2) : Cs.parse l = ([], x.2.2, 2) := by
  have hp : Cs.parse l = Cs.prs (l.length + 1) l 0 [] [] := by unfold Cs.parse; rw [if_neg hl]
  rw [hp]
  rcases Cs.prs_pcs (l.length + 1) l 0 [] [] ([], true) (by omega) (.inl ⟨rfl, rfl⟩) with ⟨p2, p, e1, e2, e3, e4⟩ | ⟨e1, _⟩
  · rw [e1] at h
    have hlen := h.length_le
    simp at hlen
    have h2 : pre.length = p2.length := by
      rcases Nat.lt_or_ge pre.length p2.length with hlt | hge
      · exfalso
        obtain ⟨t, ht⟩ := h
        have : (p2 ++ [p])[pre.length]? = some x := by rw [← ht]; simp
        rw [List.getElem?_append_left hlt] at this
        exact e3 x (List.mem_of_getElem? this) hx
      · omega
    obtain ⟨t, ht⟩ := h
    have h3 : (p2 ++ [p])[pre.length]? = some x := by rw [← ht]; simp
    rw [h2] at h3
    simp at h3
    rw [e4, h3]
  · exact absurd hx (e1 x (h.subset (by simp)))
theorem parse_done {l : Cs.F} (hl : l ≠ []) (h : ∀ q ∈ Cs.pcs (l.length + 1) l 0, q.2.1 ≠ 2) : Cs.parse l = ((Cs.bld (Cs.pcs (l.length + 1) l 0)).1, l.length, 0) := by
  have hp : Cs.parse l = Cs.prs (l.length + 1) l 0 [] [] := by unfold Cs.parse; rw [if_neg hl]
  rw [hp]
  rcases Cs.prs_pcs (l.length + 1) l 0 [] [] ([], true) (by omega) (.inl ⟨rfl, rfl⟩) with ⟨p2, p, e1, e2, e3, e4⟩ | ⟨_, e2⟩
  · exact absurd e2 (h p (by rw [e1]; simp))
  · rw [e2]; simp [Cs.bld]
theorem bld_ne : ∀ (pre : List Cs.P), (Cs.bld pre).2 = false → (Cs.bld pre).1 ≠ [] := by
  intro pre
  rcases List.eq_nil_or_concat pre with rfl | ⟨q, p, rfl⟩
  · intro h; cases h
  · intro _
    rw [List.concat_eq_append, Cs.bld_snoc]
    unfold Cs.bstep
    split <;> simp
theorem bld_len : ∀ (n : Nat) (pre : List Cs.P), pre.length = n → (Cs.bld pre).1.length ≤ pre.length ∧ ∀ r ∈ (Cs.bld pre).1, r.length ≤ pre.length
  | 0, pre, h => by
    have : pre = [] := List.eq_nil_of_length_eq_zero h
    subst this
    simp [Cs.bld]
  | n + 1, pre, h => by
    rcases List.eq_nil_or_concat pre with rfl | ⟨q, p, rfl⟩
    · simp at h
    · rw [List.concat_eq_append] at h ⊢
      obtain ⟨h1, h2⟩ := bld_len n q (by simpa using h)
      rw [Cs.bld_snoc]
      unfold Cs.bstep
      simp only [List.length_append, List.length_cons, List.length_nil, Nat.zero_add]
      split
      · refine ⟨by simpa using h1, fun r hr => ?_⟩
        rcases List.mem_append.1 hr with hr | hr
        · have := h2 r hr; omega
        · simp at hr; subst hr; simp
      · rename_i hb
        have hne := bld_ne q (by simpa using hb)
        have hpos := List.length_pos_iff.2 hne
        refine ⟨by simp; omega, fun r hr => ?_⟩
        rcases List.mem_append.1 hr with hr | hr
        · have := h2 r ((List.dropLast_sublist _).subset hr); omega
        · simp at hr; subst hr
          rw [List.getLast?_eq_some_getLast hne]
          have := h2 _ (List.getLast_mem hne)
          simp; exact this

theorem owns_slice {w : World} {base n size : Nat} {e : TypeId} {v : Value} {xs : List Value} (h : w.ownsRow base e size v n xs) : ∃ p k c, v = .slice p k c := by
  rcases h.2 with ⟨rfl, _⟩ | ⟨g, cap, cur, rfl, _⟩
  · exact ⟨_, _, _, rfl⟩
  · exact ⟨_, _, _, rfl⟩

theorem owns_low {N B n : Nat} {W : World} {e : TypeId} {v : Value} {xs : List Value} (h : W.ownsRow N e 1 v n xs) (hB : B < N) : v.ownBlock = none ∨ v.ownBlock ≠ some B := by
  cases hv : v.ownBlock with
  | none => exact .inl rfl
  | some g => exact .inr (fun e => by cases e; have := (h.lt _ hv).1; omega)
theorem Rws.low {N B : Nat} {W : World} {vo : Value} {vs : List Value} {rs : List (List (List UInt8))} (h : Rws N W vo vs rs) (hB : B < N) (u : Value) : Rws N (W.setCell ⟨B, 0, none⟩ u) vo vs rs :=
  ⟨h.1.kept (grownBy_setCell' W B u) (owns_low h.1 hB), fun j x r hx hr => (h.2.1 j x r hx hr).kept (grownBy_setCell' W B u) (owns_low (h.2.1 j x r hx hr) hB), h.2.2⟩
/-- whatever is no row, or lies below N, lies as it lay -/
structure RK (N : Nat) (W W' : World) : Prop where
  os : W'.os = W.os
  tape : W'.tape = W.tape
  output : W'.output = W.output
  size : W.heap.size ≤ W'.heap.size
  keep : ∀ (k : Nat) (o : Obj), W.heap[k]? = some o → (k < N ∨ ∀ c, o ≠ .cells c 38 (0, 0) ∧ o ≠ .cells c 9 (0, 0)) → W'.heap[k]? = some o
theorem RK.trans {N : Nat} {A B C : World} (h : RK N A B) (k : RK N B C) : RK N A C :=
  ⟨k.os.trans h.os, k.tape.trans h.tape, k.output.trans h.output, Nat.le_trans h.size k.size, fun i o ho hc => k.keep i o (h.keep i o ho hc) hc⟩
theorem RK.below {N : Nat} {W W' : World} (h : Below W.heap.size W W') : RK N W W' := ⟨h.os, h.tape, h.output, h.size, fun k o ho _ => (h.block k (Array.getElem?_eq_some_iff.1 ho).1).trans ho⟩
theorem RK.refl (N : Nat) (W : World) : RK N W W := RK.below (Below.refl _ W)
theorem RK.alloc (N : Nat) (W : World) (o : Obj) : RK N W (W.alloc o) := RK.below ((Below.refl _ W).alloc (Nat.le_refl _) o)
theorem RK.drew (N : Nat) (W : World) : RK N W W.drew := RK.below ((Below.refl _ W).drew)
theorem RK.grow {N n : Nat} {W W' : World} {e : TypeId} {v : Value} {xs : List Value} (h : W.ownsRow N e 1 v n xs) (he : e = 38 ∨ e = 9) (hg : W.grownBy W' v.ownBlock) : RK N W W' := by
  refine ⟨hg.os, hg.tape, hg.output, hg.size, fun k o ho hc => (hg.block k (Array.getElem?_eq_some_iff.1 ho).1 (fun e' => ?_)).trans ho⟩
  rcases h.2 with ⟨rfl, _⟩ | ⟨g, cap, cur, rfl, hb, hblk, _⟩
  · simp [Value.ownBlock] at e'
  · simp only [Value.ownBlock, Option.some.injEq] at e'
    subst e'
    rcases hc with hc | hc
    · omega
    · rw [ho] at hblk
      simp only [Option.some.injEq] at hblk
      rcases he with rfl | rfl
      · exact (hc cur).1 hblk
      · exact (hc cur).2 hblk
theorem RK.boxed {N B : Nat} {W W' : World} {t : TypeId} {v : Value} (h : RK N W W') (hB : B < N) (hb : Boxed W B t v) : Boxed W' B t v := h.keep B _ hb (.inl hB)
theorem RK.piece {N B : Nat} {W W' : World} {c : Array Value} (h : RK N W W') (hb : W.heap[B]? = some (.cells c 44 (0, 0))) : W'.heap[B]? = some (.cells c 44 (0, 0)) :=
  h.keep B _ hb (.inr (fun c' => ⟨by simp, by simp⟩))
theorem RK.others {N : Nat} {W W' : World} (h : RK N W W') : KeepsOthers W W' :=
  ⟨h.size, fun k o ho hc => h.keep k o ho (.inr (fun c => ⟨fun e => (by subst e; cases hc), fun e => (by subst e; cases hc)⟩))⟩
theorem RK.kpP {N B5 : Nat} {W W' : World} (h : RK N W W') (hB : B5 < N) {v : Value} {t : TypeId} (hb : Boxed W B5 t v) : KpP B5 W W' :=
  ⟨(h.boxed hB hb).trans (show W.heap[B5]? = _ from hb).symm, fun b c hc => h.piece hc⟩
theorem RK.low {N n₀ : Nat} {w0 W W' : World} (h : RK N W W') (hn : n₀ ≤ N) (hs : n₀ ≤ W.heap.size) (hb : Below n₀ w0 W) : Below n₀ w0 W' :=
  hb.trans ⟨h.os, h.tape, h.output, h.size, fun k hk => by
    have hlt : k < W.heap.size := by omega
    rw [Array.getElem?_eq_getElem hlt]
    exact h.keep k _ (Array.getElem?_eq_getElem hlt) (.inl (by omega))⟩
theorem kpP_set {B5 B : Nat} {W : World} {v u : Value} {t : TypeId} (hb : Boxed W B t v) (ht : t ≠ 44) (hne : B ≠ B5) (hlt : B5 < W.heap.size) : KpP B5 W (W.setCell ⟨B, 0, none⟩ u) := by
  have hg := grownBy_setCell' W B u
  refine ⟨hg.block B5 hlt (fun e => hne (by cases e; rfl)), fun b c hc => ?_⟩
  refine (hg.block b (Array.getElem?_eq_some_iff.1 hc).1 (fun e => ?_)).trans hc
  obtain rfl : b = B := by cases e; rfl
  rw [show W.heap[b]? = _ from hb] at hc
  simp at hc; exact ht hc.2
theorem ck_putObj {W : World} {D : Nat} {o : Obj} (o' : Obj) (h : W.heap[D]? = some o) (hc : o.isCells = false) : CK W (W.putObj D o') := CK.grown (grownBy_putObj' W D o') (fun r e => by cases e; exact ⟨o, h, hc⟩)

/-- between two rounds -/
def PaI (n₀ B1 B2 B3 B4 B5 : Nat) (s : ByteArray) (w0 : World) (pre : List Cs.P) (W : World) : Prop :=
  (∃ vo vs, Boxed W B3 23 vo ∧ Rws (B5 + 1) W vo vs (Cs.bld pre).1) ∧ Boxed W B4 4 (.bool (Cs.bld pre).2) ∧ Boxed W n₀ 23 (.slice none 0 0) ∧ Boxed W B1 3 (.int .i64 0) ∧ Boxed W B2 24 (.int .i64 0) ∧ Boxed W B5 9 (.string s) ∧
  (∀ q ∈ pre, q.2.1 ≠ 2) ∧ Below n₀ w0 W
/-- stopped: the results lie in their cells -/
def PaX (n₀ B1 B2 : Nat) (w0 : World) (c : Code) (pre : List Cs.P) (W : World) : Prop :=
  c = .ret ∧ ∃ p x, pre = p ++ [x] ∧ x.2.1 = 2 ∧ Boxed W n₀ 23 (.slice none 0 0) ∧ Boxed W B1 3 (.int .i64 (x.2.2 : Int)) ∧ Boxed W B2 24 (.int .i64 2) ∧ Below n₀ w0 W
section
variable {n₀ B1 B2 B3 B4 B5 : Nat} {s : ByteArray} {w0 W W' : World} {pre : List Cs.P}
theorem PaI.ck (h : PaI n₀ B1 B2 B3 B4 B5 s w0 pre W) (hc : CK W W') (hb : Below n₀ w0 W') : PaI n₀ B1 B2 B3 B4 B5 s w0 pre W' := by
  obtain ⟨⟨vo, vs, h1, h2⟩, h3, h4, h5, h6, h7, h8, _⟩ := h
  exact ⟨⟨vo, vs, hc.boxed h1, h2.ck hc⟩, hc.boxed h3, hc.boxed h4, hc.boxed h5, hc.boxed h6, hc.boxed h7, h8, hb⟩
theorem PaI.own {B : Nat} (h0 : n₀ ≤ w0.heap.size) (hB : n₀ ≤ B) : OwnFrom B (PaI n₀ B1 B2 B3 B4 B5 s w0) := by
  intro pre W W' row h hg hr
  exact h.ck (CK.grown hg (fun r e => (hr r e).2)) (ownFrom_below h0 hB () W W' row h.2.2.2.2.2.2.2 hg hr)
theorem PaX.own {B : Nat} {c : Code} (h0 : n₀ ≤ w0.heap.size) (hB : n₀ ≤ B) : OwnFrom B (PaX n₀ B1 B2 w0 c) := by
  rintro pre W W' row ⟨hc, p, x, h1, h2, h3, h4, h5, h6⟩ hg hr
  have hk := CK.grown hg (fun r e => (hr r e).2)
  exact ⟨hc, p, x, h1, h2, hk.boxed h3, hk.boxed h4, hk.boxed h5, ownFrom_below h0 hB () W W' row h6 hg hr⟩
end
/-- ahead of a round's body: the piece lies in a cell of its own -/
def PaA (n₀ B1 B2 B3 B4 B5 : Nat) (s : ByteArray) (w0 : World) (act : Nat → Cs.P → Act) (pre : List Cs.P) (x : Cs.P) (a : Act) (W : World) : Prop :=
  ∃ Bp, a = act Bp x ∧ PaI n₀ B1 B2 B3 B4 B5 s w0 pre W ∧ W.heap[Bp]? = some (.cells #[.string (bs x.1), .int .i64 (x.2.1 : Int), .int .i64 (x.2.2 : Int)] 44 (0, 0))
theorem PaA.own {n₀ B1 B2 B3 B4 B5 : Nat} {s : ByteArray} {w0 : World} {act : Nat → Cs.P → Act} {B : Nat} {x : Cs.P} {a : Act} (h0 : n₀ ≤ w0.heap.size) (hB : n₀ ≤ B) : OwnFrom B (fun pre => PaA n₀ B1 B2 B3 B4 B5 s w0 act pre x a) := by
  rintro pre W W' row ⟨Bp, ha, h1, h2⟩ hg hr
  exact ⟨Bp, ha, PaI.own h0 hB pre W W' row h1 hg hr, CK.grown hg (fun r e => (hr r e).2) Bp _ h2 rfl⟩

/-- in a round: the rows as they stand now -/
def PaM (n₀ B1 B2 B3 B4 B5 Bp : Nat) (s : ByteArray) (w0 W : World) (vo : Value) (vs : List Value) (rs : List (List (List UInt8))) (x : Cs.P) (V : World) : Prop :=
  Boxed V B3 23 vo ∧ Rws (B5 + 1) V vo vs rs ∧ (∃ b, Boxed V B4 4 (.bool b)) ∧ Boxed V n₀ 23 (.slice none 0 0) ∧ Boxed V B1 3 (.int .i64 0) ∧ Boxed V B2 24 (.int .i64 0) ∧ Boxed V B5 9 (.string s) ∧
  V.heap[Bp]? = some (.cells #[.string (bs x.1), .int .i64 (x.2.1 : Int), .int .i64 (x.2.2 : Int)] 44 (0, 0)) ∧ Below n₀ w0 V ∧ KeepsOthers W V ∧ KpP B5 W V
section
variable {n₀ B1 B2 B3 B4 B5 Bp : Nat} {s : ByteArray} {w0 W V V' : World} {vo vo' : Value} {vs vs' : List Value} {rs rs' : List (List (List UInt8))} {x : Cs.P}
theorem PaM.put (h : PaM n₀ B1 B2 B3 B4 B5 Bp s w0 W vo vs rs x V) (hn : n₀ ≤ B5 ∧ B1 ≤ B5 ∧ B2 ≤ B5 ∧ B3 ≤ B5 ∧ B4 ≤ B5) (hk : RK (B5 + 1) V V') (hr : Rws (B5 + 1) V' vo vs' rs') : PaM n₀ B1 B2 B3 B4 B5 Bp s w0 W vo vs' rs' x V' := by
  obtain ⟨b3, _, ⟨b, b4⟩, b0, b1, b2, b5, hp, hbl, hko, hkp⟩ := h
  exact ⟨hk.boxed (by omega) b3, hr, ⟨b, hk.boxed (by omega) b4⟩, hk.boxed (by omega) b0, hk.boxed (by omega) b1, hk.boxed (by omega) b2, hk.boxed (by omega) b5, hk.piece hp, hk.low (by omega) (by have := b5.lt; omega) hbl, hko.trans hk.others, hkp.trans (hk.kpP (by omega) b5)⟩
theorem PaM.new (h : PaM n₀ B1 B2 B3 B4 B5 Bp s w0 W vo vs rs x V) (hn : n₀ < B3 ∧ B1 < B3 ∧ B2 < B3 ∧ B3 < B4 ∧ B4 < B5) (hk : RK (B5 + 1) V V') (hr : Rws (B5 + 1) V' vo' vs' rs') : PaM n₀ B1 B2 B3 B4 B5 Bp s w0 W vo' vs' rs' x (V'.setCell ⟨B3, 0, none⟩ vo') := by
  obtain ⟨b3, _, ⟨b, b4⟩, b0, b1, b2, b5, hp, hbl, hko, hkp⟩ := h
  have d3 := hk.boxed (by omega) b3
  have d5 := hk.boxed (by omega) b5
  have hp' := hk.piece hp
  refine ⟨d3.set _, hr.low (by omega) _, ⟨b, (hk.boxed (by omega) b4).other (by omega) _⟩, (hk.boxed (by omega) b0).other (by omega) _, (hk.boxed (by omega) b1).other (by omega) _, (hk.boxed (by omega) b2).other (by omega) _, d5.other (by omega) _, ?_, (hk.low (by omega) (by have := b5.lt; omega) hbl).setCell (p := ⟨B3, 0, none⟩) (show n₀ ≤ B3 by omega) _, (hko.trans hk.others).trans (KeepsOthers.setCell _ _ _), (hkp.trans (hk.kpP (by omega) b5)).trans (kpP_set d3 (by decide) (by omega) d5.lt)⟩
  exact (kpP_set d3 (by decide) (by omega) d5.lt).2 Bp _ hp'
theorem PaM.fin {pre : List Cs.P} {c : Bool} (h : PaM n₀ B1 B2 B3 B4 B5 Bp s w0 W vo vs rs x V) (hn : n₀ < B4 ∧ B1 < B4 ∧ B2 < B4 ∧ B3 < B4 ∧ B4 < B5) (he : Cs.bld (pre ++ [x]) = (rs, c)) (hm : ∀ q ∈ pre ++ [x], q.2.1 ≠ 2) :
    KeepsFrom (B5 + 1) W (V.setCell ⟨B4, 0, none⟩ (.bool c)) ∧ KpP B5 W (V.setCell ⟨B4, 0, none⟩ (.bool c)) ∧ PaI n₀ B1 B2 B3 B4 B5 s w0 (pre ++ [x]) (V.setCell ⟨B4, 0, none⟩ (.bool c)) := by
  obtain ⟨b3, hr, ⟨b, b4⟩, b0, b1, b2, b5, hp, hbl, hko, hkp⟩ := h
  refine ⟨(hko.trans (KeepsOthers.setCell _ _ _)).from _, hkp.trans (kpP_set b4 (by decide) (by omega) b5.lt), ⟨vo, vs, b3.other (by omega) _, ?_⟩, ?_, b0.other (by omega) _, b1.other (by omega) _, b2.other (by omega) _, b5.other (by omega) _, hm, hbl.setCell (p := ⟨B4, 0, none⟩) (show n₀ ≤ B4 by omega) _⟩
  · rw [he]; exact hr.low (by omega) _
  · rw [he]; exact b4.set _
end

theorem infoS : (Try.prog.info? 38).map (fun i => (i.zero, i.size, i.bytes)) = some (some (.slice none 0 0), 1, 24) := by kernel_rfl
theorem infoT : (Try.prog.info? 9).map (fun i => (i.zero, i.size, i.bytes)) = some (some (.string ⟨#[]⟩), 1, 16) := by kernel_rfl

theorem ck_drew (W : World) : CK W W.drew := CK.below ((Below.refl _ W).drew)
theorem ck_alloc (W : World) (o : Obj) : CK W (W.alloc o) := CK.below ((Below.refl _ W).alloc (Nat.le_refl _) o)

set_option maxRecDepth 100000 in
set_option maxHeartbeats 2000000 in
theorem parse_some (s : ByteArray) (w : World) (hs : s.size ≤ 4294967280) (hs0 : 0 < s.size) :
    CallsIn Fence.wide 6 Try.prog 10 #[.string s] w fun e w' => ∃ v, e = .returned (.tuple #[v, .int .i64 ((Cs.parse s.data.toList).2.1 : Int), .int .i64 ((Cs.parse s.data.toList).2.2 : Int)]) ∧ RowsV w' v (Cs.parse s.data.toList).1 ∧ Below w.heap.size w w' := by
  obtain ⟨i0, hi, hz0, hz1, hz2⟩ := info_parts infoS
  obtain ⟨i9, gi, gz0, gz1, gz2⟩ := info_parts infoT
  refine callsIn_of_wp_marks Try.func10 rfl trivial ?_ rfl
  simp only [Try.ntmps10, List.size_toArray, List.length_cons, List.length_nil, Nat.reduceAdd, Nat.reduceSub, Array.replicate_succ, Array.replicate_zero, List.push_toArray, List.append_toArray, List.nil_append, List.cons_append]
  have hne := isEmpty_of s hs0
  gi_wp2_with (refine ⟨trivial, ?_⟩; gi_at_call 18; refine (callsIn_wide.2 (pieces_any _ _)).mono ?_; rintro e w' ⟨rfl, rfl⟩)
  obtain ⟨W5, hW5⟩ : ∃ W5, ((((((w.alloc (.cells #[.slice none 0 0] 23)).alloc (.cells #[.int .i64 0] 3)).alloc (.cells #[.int .i64 0] 24)).alloc (.cells #[.slice none 0 0] 23)).alloc (.cells #[.bool true] 4)).alloc (.cells #[.string s] 9)) = W5 := ⟨_, rfl⟩
  have hsz : W5.heap.size = w.heap.size + 1 + 1 + 1 + 1 + 1 + 1 := by rw [← hW5]; simp
  have hI0 : PaI w.heap.size (w.heap.size + 1) (w.heap.size + 1 + 1) (w.heap.size + 1 + 1 + 1) (w.heap.size + 1 + 1 + 1 + 1) (w.heap.size + 1 + 1 + 1 + 1 + 1) s w [] W5 := by
    rw [← hW5]
    have b0 := Boxed.new w 23 (.slice none 0 0)
    have b1 := Boxed.new (w.alloc (.cells #[.slice none 0 0] 23)) 3 (.int .i64 0)
    have b2 := Boxed.new ((w.alloc (.cells #[.slice none 0 0] 23)).alloc (.cells #[.int .i64 0] 3)) 24 (.int .i64 0)
    have b3 := Boxed.new (((w.alloc (.cells #[.slice none 0 0] 23)).alloc (.cells #[.int .i64 0] 3)).alloc (.cells #[.int .i64 0] 24)) 23 (.slice none 0 0)
    have b4 := Boxed.new ((((w.alloc (.cells #[.slice none 0 0] 23)).alloc (.cells #[.int .i64 0] 3)).alloc (.cells #[.int .i64 0] 24)).alloc (.cells #[.slice none 0 0] 23)) 4 (.bool true)
    have b5 := Boxed.new (((((w.alloc (.cells #[.slice none 0 0] 23)).alloc (.cells #[.int .i64 0] 3)).alloc (.cells #[.int .i64 0] 24)).alloc (.cells #[.slice none 0 0] 23)).alloc (.cells #[.bool true] 4)) 9 (.string s)
    simp only [World.size_alloc] at b1 b2 b3 b4 b5
    refine ⟨⟨_, _, (b3.alloc _).alloc _, Rws.start _ _⟩, b4.alloc _, ((((b0.alloc _).alloc _).alloc _).alloc _).alloc _, (((b1.alloc _).alloc _).alloc _).alloc _, ((b2.alloc _).alloc _).alloc _, b5, by simp, ?_⟩
    exact ((((((Below.refl _ w).alloc (Nat.le_refl _) _).alloc (by simp) _).alloc (by simp; omega) _).alloc (by simp; omega) _).alloc (by simp; omega) _).alloc (by simp; omega) _
  rw [hW5]
  clear hW5
  generalize h5 : w.heap.size + 1 + 1 + 1 + 1 + 1 = B5 at *
  generalize h4 : w.heap.size + 1 + 1 + 1 + 1 = B4 at *
  generalize h3 : w.heap.size + 1 + 1 + 1 = B3 at *
  generalize h2 : w.heap.size + 1 + 1 = B2 at *
  generalize h1 : w.heap.size + 1 = B1 at *
  have hbx : Boxed W5 B5 9 (.string s) := hI0.2.2.2.2.2.1
  obtain ⟨T, hT⟩ : ∃ T, T = Cs.pcs (s.size + 1) s.data.toList 0 := ⟨_, rfl⟩
  refine wpIn_rangeFunc_ax rfl (by omega) (gf := 24) (lb := #[.pointer (some ⟨B5, 0, none⟩)]) rfl trivial (enters_of Try.func24 (by kernel_rfl) rfl)
    (pieces_seq 5 B5 s hs T hT W5 hbx) (fun pre x A B hs => fun k o _ hk _ => (hs.block k (Array.getElem?_eq_some_iff.1 hk).1).trans hk) (fun A B hs => by subst hs; exact fun _ _ _ h _ => h) (fun h1 h2 => h1.trans h2)
    (fun W l o o' hl ho hc _ => ⟨World.putObj_heap_other (by omega), fun b c hb => (World.putObj_heap_other (fun e => by subst e; rw [ho] at hb; cases hb; cases hc)).trans hb⟩) (Below.refl _ _) (fun _ => rfl)
    (PaI w.heap.size B1 B2 B3 B4 B5 s w) (fun pre _ => PaI w.heap.size B1 B2 B3 B4 B5 s w pre)
    (PaA w.heap.size B1 B2 B3 B4 B5 s w (fun Bp x => { tmps := #[.string s, undef, .pointer (some ⟨w.heap.size, 0, none⟩), .pointer (some ⟨B1, 0, none⟩), .pointer (some ⟨B2, 0, none⟩), .pointer (some ⟨B3, 0, none⟩), .pointer (some ⟨B4, 0, none⟩), .pointer (some ⟨Bp, 0, none⟩), .string s, .bool false, .string s,
      .func (.func 24) #[] #[.pointer (some ⟨B5, 0, none⟩)], pv x, undef, undef, undef, undef, undef, undef, undef, undef, undef, undef, undef, undef, undef, undef, undef, undef, undef, undef, undef, undef, undef, undef, undef, undef, undef, undef, undef, undef, undef, undef], defers := [] }))
    (PaX w.heap.size B1 B2 w)
    (PaI.own (Nat.le_refl _) (by omega)) (fun _ => PaI.own (Nat.le_refl _) (by omega)) (fun _ _ => PaA.own (Nat.le_refl _) (by omega)) (fun _ => PaX.own (Nat.le_refl _) (by omega))
    (fun pre x A B h _ hs => h.ck (CK.below hs) (h.2.2.2.2.2.2.2.trans (hs.mono h.2.2.2.2.2.2.2.size))) (fun pre A B h hs => by cases hs; exact h) hI0 ?assign ?body ?done ?stop
  case assign =>
    intro l pre x W K hI hok hK
    gi_wp2
    refine hK _ _ ((KeepsOthers.alloc W _).from _) ⟨(CK.boxed (ck_alloc W _) hI.2.2.2.2.2.1).trans hI.2.2.2.2.2.1.symm, fun b c hb => ck_alloc W _ b _ hb rfl⟩ ⟨W.heap.size, rfl, ?_, heap_alloc_new W _⟩
    exact hI.ck (ck_alloc W _) (hI.2.2.2.2.2.2.2.alloc hI.2.2.2.2.2.2.2.size _)
  case body =>
    rintro l pre x a' W ⟨Bp, rfl, hI, hp⟩ hok
    have z0 : W.cell? ⟨Bp, 0, none⟩ = some (.string (bs x.1)) := by simp [World.cell?, hp]
    have z1 : W.cell? ⟨Bp, 1, none⟩ = some (.int .i64 (x.2.1 : Int)) := by simp [World.cell?, hp]
    have z2 : W.cell? ⟨Bp, 2, none⟩ = some (.int .i64 (x.2.2 : Int)) := by simp [World.cell?, hp]
    have hne : ∀ (b : Nat) (t : TypeId) (v : Value), Boxed W b t v → b ≠ Bp := fun b t v hb e => by
      subst e
      rw [show W.heap[b]? = _ from hb] at hp
      simp at hp
    by_cases hm2 : x.2.1 = 2
    · have t2 : ((x.2.1 : Int) == 2) = true := beq_iff_eq.2 (by omega)
      obtain ⟨⟨vo, vs, b3, hrw⟩, b4, b0, b1, b2, b5, hm, hbl⟩ := hI
      have c0 := b0.cell
      have c1 := b1.cell
      have c2 := b2.cell
      have f0 := b0.frozen
      have f1 := b1.frozen
      have f2 := b2.frozen
      have g0 := hne _ _ _ b0
      have g1 := hne _ _ _ b1
      have g2 := hne _ _ _ b2
      have n1 : w.heap.size ≠ B1 := by omega
      have n2 : w.heap.size ≠ B2 := by omega
      have n3 : B1 ≠ B2 := by omega
      gi_wp2
      have hS0 : W.drew.cell? ⟨Bp, 2, none⟩ = some (.int .i64 (x.2.2 : Int)) := z2
      refine wpIn_round_held (fun w' => w'.cell? ⟨Bp, 2, none⟩ = some (.int .i64 (x.2.2 : Int))) (by kernel_rfl) (fun h => by obtain ⟨_, _, h⟩ := h; exact h) (by kernel_rfl) ?_
      refine wpAnyH_take (i := 0) (v := ?_) rfl (by kernel_rfl) (by kernel_rfl) (by kernel_rfl) (fun _ _ _ h => h) (Or.inl ⟨by rfl, ?_⟩) hS0 ?_
      rotate_left
      · intro w' hSw; (try dsimp only at hSw); go_split_ands; go_simp; all_goals with_reducible rfl
      simp only [List.getElem_toArray, List.getElem_cons_succ, List.getElem_cons_zero, Act.put, List.setIfInBounds_toArray, List.set_cons_zero, List.set_cons_succ]
      refine wpAnyH_take (i := 1) (v := ?_) rfl (by kernel_rfl) (by kernel_rfl) (by kernel_rfl) (fun _ _ _ h => h) (Or.inl ⟨by rfl, ?_⟩) hS0 ?_
      rotate_left
      · intro w' hSw; (try dsimp only at hSw); go_split_ands; go_simp; all_goals with_reducible rfl
      simp only [List.getElem_toArray, List.getElem_cons_succ, List.getElem_cons_zero, Act.put, List.setIfInBounds_toArray, List.set_cons_zero, List.set_cons_succ]
      refine wpAnyH_ready (rs := [2]) (by kernel_rfl) (by simp) (AllReadyH.cons rfl (fun K hK => ?_) AllReadyH.nil)
      go_simp
      refine hK.out _ _ (by simp [World.cell?_setCell_far, g0, z2]) (fun hS1 => ?_)
      clear hK K
      refine wpAnyH_ready (rs := [3]) (by kernel_rfl) (by simp) (AllReadyH.cons rfl (fun K hK => ?_) AllReadyH.nil)
      go_simp
      refine hK.out _ _ (by simp [World.cell?_setCell_far, g0, g1, z2]) (fun hS2 => ?_)
      clear hK K
      refine wpAnyH_ready (rs := [4]) (by kernel_rfl) (by simp) (AllReadyH.cons rfl (fun K hK => ?_) AllReadyH.nil)
      go_simp
      refine hK.out _ _ (by simp [World.cell?_setCell_far, g0, g1, g2, z2]) (fun hS3 => ?_)
      clear hK K
      refine wpAnyH_done (by kernel_rfl) ?_ _
      gi_wp2
      have d0 := ((b0.set (.slice none 0 0)).other (B' := B1) (by omega) (.int .i64 (x.2.2 : Int))).other (B' := B2) (by omega) (.int .i64 2)
      have d1 := ((b1.other (B' := w.heap.size) (by omega) (.slice none 0 0)).set (.int .i64 (x.2.2 : Int))).other (B' := B2) (by omega) (.int .i64 2)
      have d2 := ((b2.other (B' := w.heap.size) (by omega) (.slice none 0 0)).other (B' := B1) (by omega) (.int .i64 (x.2.2 : Int))).set (.int .i64 2)
      have hk3 := ((KeepsOthers.setCell W ⟨w.heap.size, 0, none⟩ (.slice none 0 0)).trans (KeepsOthers.setCell _ ⟨B1, 0, none⟩ (.int .i64 (x.2.2 : Int)))).trans (KeepsOthers.setCell _ ⟨B2, 0, none⟩ (.int .i64 2))
      have hbl3 := ((hbl.setCell (p := ⟨w.heap.size, 0, none⟩) (Nat.le_refl _) (.slice none 0 0)).setCell (p := ⟨B1, 0, none⟩) (show w.heap.size ≤ B1 by omega) (.int .i64 (x.2.2 : Int))).setCell (p := ⟨B2, 0, none⟩) (show w.heap.size ≤ B2 by omega) (.int .i64 2)
      exact ⟨⟨hk3.size, fun k o _ => hk3.same k o⟩, rfl, pre, x, rfl, hm2, d0, d1, d2, hbl3.drew⟩
    · have t2 : ((x.2.1 : Int) == 2) = false := beq_eq_false_iff_ne.2 (by omega)
      obtain ⟨⟨vo, vs, b3, hrw⟩, b4, b0, b1, b2, b5, hm, hbl⟩ := hI
      have hm' : ∀ q ∈ pre ++ [x], q.2.1 ≠ 2 := fun q hq => by
        rcases List.mem_append.1 hq with hq | hq
        · exact hm q hq
        · simp at hq; subst hq; exact hm2
      have hpl : pre.length ≤ 4294967281 := by
        have h1 := hok.length_le
        have h2 := pcs_len (s.size + 1) s.data.toList 0
        rw [← hT] at h2
        simp at h1; omega
      obtain ⟨hbl1, hbl2⟩ := bld_len pre.length pre rfl
      have hsn := Cs.bld_snoc pre x
      have hnn := bld_ne pre
      generalize Cs.bld pre = bp at *
      obtain ⟨rs, fst⟩ := bp
      dsimp only at hrw b4 hbl1 hbl2 hnn
      have hM0 : PaM w.heap.size B1 B2 B3 B4 B5 Bp s w W vo vs rs x W := ⟨b3, hrw, ⟨_, b4⟩, b0, b1, b2, b5, hp, hbl, ⟨Nat.le_refl _, fun _ _ h _ => h⟩, ⟨rfl, fun _ _ h => h⟩⟩
      cases fst
      case' true =>
        have hst : Cs.bld (pre ++ [x]) = (rs ++ [[] ++ [x.1]], x.2.1 == 1) := by rw [hsn]; rfl
        obtain ⟨vp, vk, vc, rfl⟩ := owns_slice hrw.1
        have c3 := b3.cell
        have c4 := b4.cell
        have f3 := b3.frozen
        gi_wp2_with (gi_at_builtin; refine wpListIn_append_own_at _ rfl _ _ 23 rfl (B5 + 1) 38 i0 (.slice none 0 0) 1 24 Try.underlying23 hi hz0 hz1 hz2 rfl (by decide) _ _ _ rfl (hrw.1.alloc _) ⟨W.heap.size, 0, none⟩ 1 1 [.slice none 0 0] rfl rfl (cell_one_new _ _ _) (by simp [Value.oneCell']) (by unfold maxLen; omega) (by omega) (by have := b5.lt; simp; omega) ?_; intro v' w1 hown' hgrow _ _; obtain ⟨g', cap', rfl⟩ := ownsRow_succ hown'; have hrk := (RK.alloc (B5 + 1) W (.cells #[.slice none 0 0] 38)).trans (RK.grow (hrw.1.alloc _) (.inl rfl) hgrow); have bb3 := hrk.boxed (by omega) b3; have cc3 := bb3.cell; have ff3 := bb3.frozen)
        have hrw1 := (hrw.ck (ck_alloc W _)).newrow hgrow hown'
        have hM := hM0.new (by omega) hrk hrw1
        obtain ⟨vo', vs', dr, r, hvo, hst', hdr, hrl, hM⟩ : ∃ vo' vs' dr r, vo' = Value.slice (some ⟨g', 0, none⟩) (rs.length + 1) cap' ∧ Cs.bld (pre ++ [x]) = (dr ++ [r ++ [x.1]], x.2.1 == 1) ∧ dr.length ≤ 4294967281 ∧ r.length ≤ 4294967281 ∧ PaM w.heap.size B1 B2 B3 B4 B5 Bp s w W vo' vs' (dr ++ [r]) x (w1.setCell ⟨B3, 0, none⟩ (Value.slice (some ⟨g', 0, none⟩) (rs.length + 1) cap')) := ⟨_, _, rs, [], rfl, hst, by omega, by simp, hM⟩
        clear hst hM0 c3 c4 f3 hvo
        generalize w1.setCell ⟨B3, 0, none⟩ (Value.slice (some ⟨g', 0, none⟩) (rs.length + 1) cap') = V at hM ⊢
      case' false =>
        have c4 := b4.cell
        gi_wp2
        obtain ⟨vo', vs', dr, r, hst', hdr, hrl, hM⟩ : ∃ vo' vs' dr r, Cs.bld (pre ++ [x]) = (dr ++ [r ++ [x.1]], x.2.1 == 1) ∧ dr.length ≤ 4294967281 ∧ r.length ≤ 4294967281 ∧ PaM w.heap.size B1 B2 B3 B4 B5 Bp s w W vo' vs' (dr ++ [r]) x W := by
          have hne2 : rs ≠ [] := hnn (by first | rfl | trivial)
          have hdg := List.dropLast_concat_getLast hne2
          refine ⟨vo, vs, rs.dropLast, rs.getLast hne2, ?_, by simp; omega, ?_, ?_⟩
          · rw [hsn]; unfold Cs.bstep
            simp only [Bool.false_eq_true, if_false]
            rw [List.getLast?_eq_some_getLast hne2]; rfl
          · have := hbl2 _ (List.getLast_mem hne2); omega
          · rw [hdg]; exact hM0
        clear hM0 c4
      all_goals
        clear hrw b3 b4 b0 b1 b2 b5 hbl hbl1 hbl2 hnn hsn hp
        obtain ⟨c, hc, hst⟩ : ∃ c : Bool, ((x.2.1 : Int) == 1) = c ∧ Cs.bld (pre ++ [x]) = (dr ++ [r ++ [x.1]], c) := by
          refine ⟨x.2.1 == 1, ?_, hst'⟩
          by_cases h : x.2.1 = 1
          · simp [h]
          · rw [beq_eq_false_iff_ne.2 (by omega), beq_eq_false_iff_ne.2 h]
        clear hst'
        have hM1 := hM
        obtain ⟨b3, hrw, ⟨_, _⟩, _, _, _, b5, hp, _, _, _⟩ := hM
        obtain ⟨ds, u, go, cap, rfl, hdl, rfl, hcu, hfu, hou, hgo1, hgo2, hune⟩ := hrw.last
        obtain ⟨up, uk, uc, rfl⟩ := owns_slice hou
        have c3 := b3.cell
        have cz : ∀ W' : World, W'.heap[Bp]? = some (.cells #[.string (bs x.1), .int .i64 (x.2.1 : Int), .int .i64 (x.2.2 : Int)] 44 (0, 0)) → W'.cell? ⟨Bp, 0, none⟩ = some (.string (bs x.1)) ∧ W'.cell? ⟨Bp, 1, none⟩ = some (.int .i64 (x.2.1 : Int)) := fun W' h => ⟨by simp [World.cell?, h], by simp [World.cell?, h]⟩
        have cp := (cz _ hp).1
        have w1l : IntKind.i64.wrap ((dr.length : Int) + 1 - 1) = dr.length := by simp only [IntKind.wrap_i64]; omega
        have w2l : IntKind.i64.wrap (dr.length : Int) = dr.length := by simp only [IntKind.wrap_i64]; omega
        have i1 : (0 : Int) ≤ (dr.length : Int) := by omega
        have i2 : (dr.length : Int) < (dr.length : Int) + 1 := by omega
        refine wpIn_round_held (fun w' => w'.cell? ⟨B3, 0, none⟩ = some (.slice (some ⟨go, 0, none⟩) (dr.length + 1) cap) ∧ w'.cell? ⟨Bp, 0, none⟩ = some (.string (bs x.1))) (by kernel_rfl) (fun h => by obtain ⟨_, _, h⟩ := h; exact h) (by kernel_rfl) ?_
        have hS0 := And.intro c3 cp
        refine wpAnyH_take (i := 0) (v := ?_) rfl (by kernel_rfl) (by kernel_rfl) (by kernel_rfl) (fun _ _ _ h => h) (Or.inl ⟨by rfl, ?_⟩) hS0 ?_
        rotate_left
        · intro w' hSw; (try dsimp only at hSw); go_split_ands; go_simp; all_goals with_reducible rfl
        simp only [List.getElem_toArray, List.getElem_cons_succ, List.getElem_cons_zero, Act.put, List.setIfInBounds_toArray, List.set_cons_zero, List.set_cons_succ]
        refine wpAnyH_take (i := 1) (v := ?_) rfl (by kernel_rfl) (by kernel_rfl) (by kernel_rfl) (fun _ _ _ h => h) (Or.inl ⟨by rfl, ?_⟩) hS0 ?_
        rotate_left
        · intro w' hSw; (try dsimp only at hSw); go_split_ands; go_simp; all_goals with_reducible rfl
        simp only [List.getElem_toArray, List.getElem_cons_succ, List.getElem_cons_zero, Act.put, List.setIfInBounds_toArray, List.set_cons_zero, List.set_cons_succ]
        refine wpAnyH_take (i := 4) (v := ?_) rfl (by kernel_rfl) (by kernel_rfl) (by kernel_rfl) (fun _ _ _ h => h) (Or.inl ⟨by rfl, ?_⟩) hS0 ?_
        rotate_left
        · intro w' hSw; (try dsimp only at hSw); go_split_ands; go_simp; all_goals with_reducible rfl
        simp only [List.getElem_toArray, List.getElem_cons_succ, List.getElem_cons_zero, Act.put, List.setIfInBounds_toArray, List.set_cons_zero, List.set_cons_succ]
        refine wpAnyH_take (i := 5) (v := ?_) rfl (by kernel_rfl) (by kernel_rfl) (by kernel_rfl) (fun _ _ _ h => h) (Or.inl ⟨by rfl, ?_⟩) hS0 ?_
        rotate_left
        · intro w' hSw; (try dsimp only at hSw); go_split_ands; go_simp; all_goals with_reducible rfl
        simp only [List.getElem_toArray, List.getElem_cons_succ, List.getElem_cons_zero, Act.put, List.setIfInBounds_toArray, List.set_cons_zero, List.set_cons_succ]
        refine wpAnyH_take (i := 2) (v := ?_) rfl (by kernel_rfl) (by kernel_rfl) (by kernel_rfl) (fun _ _ _ h => h) (Or.inl ⟨by rfl, ?_⟩) hS0 ?_
        rotate_left
        · intro w' hSw; (try dsimp only at hSw); go_split_ands; go_simp; all_goals with_reducible rfl
        simp only [List.getElem_toArray, List.getElem_cons_succ, List.getElem_cons_zero, Act.put, List.setIfInBounds_toArray, List.set_cons_zero, List.set_cons_succ]
        refine wpAnyH_take (i := 3) (v := ?_) rfl (by kernel_rfl) (by kernel_rfl) (by kernel_rfl) (fun _ _ _ h => h) (Or.inl ⟨by rfl, ?_⟩) hS0 ?_
        rotate_left
        · intro w' hSw; (try dsimp only at hSw); go_split_ands; go_simp; all_goals with_reducible rfl
        simp only [List.getElem_toArray, List.getElem_cons_succ, List.getElem_cons_zero, Act.put, List.setIfInBounds_toArray, List.set_cons_zero, List.set_cons_succ]
        refine wpAnyH_take (i := 6) (v := ?_) rfl (by kernel_rfl) (by kernel_rfl) (by kernel_rfl) (fun _ _ _ h => h) (Or.inl ⟨by rfl, ?_⟩) hS0 ?_
        rotate_left
        · intro w' hSw; (try dsimp only at hSw); go_split_ands; go_simp; all_goals with_reducible rfl
        simp only [List.getElem_toArray, List.getElem_cons_succ, List.getElem_cons_zero, Act.put, List.setIfInBounds_toArray, List.set_cons_zero, List.set_cons_succ]
        refine wpAnyH_take (i := 7) (v := ?_) rfl (by kernel_rfl) (by kernel_rfl) (by kernel_rfl) (fun _ _ _ h => h) (Or.inl ⟨by rfl, ?_⟩) hS0 ?_
        rotate_left
        · intro w' hSw; (try dsimp only at hSw); go_split_ands; go_simp; all_goals with_reducible rfl
        simp only [List.getElem_toArray, List.getElem_cons_succ, List.getElem_cons_zero, Act.put, List.setIfInBounds_toArray, List.set_cons_zero, List.set_cons_succ]
        refine wpAnyH_take (i := 8) (v := ?_) rfl (by kernel_rfl) (by kernel_rfl) (by kernel_rfl) (fun _ _ _ h => h) (Or.inl ⟨by rfl, ?_⟩) hS0 ?_
        rotate_left
        · intro w' hSw; (try dsimp only at hSw); go_split_ands; go_simp; all_goals with_reducible rfl
        simp only [List.getElem_toArray, List.getElem_cons_succ, List.getElem_cons_zero, Act.put, List.setIfInBounds_toArray, List.set_cons_zero, List.set_cons_succ]
        refine wpAnyH_take (i := 10) (v := ?_) rfl (by kernel_rfl) (by kernel_rfl) (by kernel_rfl) (fun _ _ _ h => h) (Or.inl ⟨by rfl, ?_⟩) hS0 ?_
        rotate_left
        · intro w' hSw; (try dsimp only at hSw); go_split_ands; go_simp; all_goals with_reducible rfl
        simp only [List.getElem_toArray, List.getElem_cons_succ, List.getElem_cons_zero, Act.put, List.setIfInBounds_toArray, List.set_cons_zero, List.set_cons_succ]
        refine wpAnyH_take (i := 11) (v := ?_) rfl (by kernel_rfl) (by kernel_rfl) (by kernel_rfl) (fun _ _ _ h => h) (Or.inl ⟨by rfl, ?_⟩) hS0 ?_
        rotate_left
        · intro w' hSw; (try dsimp only at hSw); go_split_ands; go_simp; all_goals with_reducible rfl
        simp only [List.getElem_toArray, List.getElem_cons_succ, List.getElem_cons_zero, Act.put, List.setIfInBounds_toArray, List.set_cons_zero, List.set_cons_succ]
        refine wpAnyH_ready (rs := [9, 12]) (by kernel_rfl) (by simp) (AllReadyH.cons rfl (fun K hK => ?_) (AllReadyH.cons rfl (fun K hK => ?_) AllReadyH.nil))
        · go_simp
          refine hK.out _ _ hS0 (fun _ => ?_)
          clear hK K
          refine wpAnyH_ready (rs := [12]) (by kernel_rfl) (by simp) (AllReadyH.cons rfl (fun K hK => ?_) AllReadyH.nil)
          go_simp
          refine hK.out _ _ ⟨cell_below (((Below.refl _ _).alloc (Nat.le_refl _) _).drew) c3, cell_below (((Below.refl _ _).alloc (Nat.le_refl _) _).drew) cp⟩ (fun hS2 => ?_)
          clear hK K
          refine wpAnyH_ready (rs := [13]) (by kernel_rfl) (by simp) (AllReadyH.cons rfl (fun K hK => ?_) AllReadyH.nil)
          have hck := fun (V0 : World) => (ck_alloc V0 (.cells #[.string (bs x.1)] 9)).trans (ck_drew _)
          have hou2 := (hck _).owns hou
          refine step_append_lies _ rfl (.tmp 31) (.tmp 34) 38 rfl (B5 + 1) 9 i9 (.string ⟨#[]⟩) 1 16 Try.underlying38 gi gz0 gz1 gz2 rfl (by decide) _ r.length (strs r) rfl hou2 _ 1 1 [.string (bs x.1)] rfl rfl (World.news_of_block (heap_alloc_new _ _)) (by simp [Value.oneCell']) (by omega) (by unfold maxLen; omega) (by omega) (by have := b5.lt; simp; omega) _ rfl ?_
          intro g2 cap2 w2 hown2 hgrow2 hfr2 hlt2
          have hrk2 := ((RK.alloc (B5 + 1) _ (.cells #[.string (bs x.1)] 9)).trans (RK.drew _ _)).trans (RK.grow hou2 (.inr rfl) hgrow2)
          have cc3 := (hrk2.boxed (by omega) b3).cell
          have ccp := (cz _ (hrk2.piece hp)).1
          have hrw2 := hrw.ck (hck _)
          have hcu2 := hgrow2.cell (cell_below (((Below.refl _ _).alloc (Nat.le_refl _) (.cells #[.string (bs x.1)] 9)).drew) hcu) (fun e => hune e.symm)
          have hor2 := hrw2.1.kept hgrow2 (.inr (fun e => hune e.symm))
          have hfu2 : w2.frozen? ⟨go, dr.length, none⟩ = false := by
            rcases hor2.2 with ⟨e, _⟩ | ⟨gq, cq, curq, e, _, hblk, _⟩
            · cases e
            · simp only [Value.slice.injEq, Option.some.injEq, Addr.mk.injEq] at e
              obtain ⟨⟨rfl, _⟩, _⟩ := e
              simp [World.frozen?, hblk]
          have hput := (hrw2.put rfl (by have := b5.lt; simp; omega) hgrow2 hown2 hfr2).1
          have hrk3 := RK.grow hor2 (.inl rfl) (Lib.grownBy_setCell w2 go dr.length (.slice (some ⟨g2, 0, none⟩) (r.length + 1) cap2))
          have hM2 := hM1.put (by omega) (hrk2.trans hrk3) hput
          obtain ⟨b3', _, ⟨bq, b4'⟩, _, _, _, _, hp', _⟩ := id hM2
          refine hK.out _ _ ⟨cc3, ccp⟩ (fun hS3 => ?_)
          clear hK K
          simp only [List.getElem_toArray, List.getElem_cons_succ, List.getElem_cons_zero, Act.put, List.setIfInBounds_toArray, List.set_cons_zero, List.set_cons_succ]
          refine wpAnyH_take (i := 14) (v := ?_) rfl (by kernel_rfl) (by kernel_rfl) (by kernel_rfl) (fun _ _ _ h => h) (Or.inl ⟨by rfl, ?_⟩) hS3 ?_
          rotate_left
          · intro w' hSw; (try dsimp only at hSw); go_split_ands; go_simp; all_goals with_reducible rfl
          simp only [List.getElem_toArray, List.getElem_cons_succ, List.getElem_cons_zero, Act.put, List.setIfInBounds_toArray, List.set_cons_zero, List.set_cons_succ]
          refine wpAnyH_ready (rs := [15]) (by kernel_rfl) (by simp) (AllReadyH.cons rfl (fun K hK => ?_) AllReadyH.nil)
          go_simp
          refine hK.out _ _ ⟨b3'.cell, (cz _ hp').1⟩ (fun hS4 => ?_)
          clear hK K
          have zz := (cz _ hp').2
          have c4 := b4'.cell
          have f4 := b4'.frozen
          have hfin := hM2.fin (by omega) hst hm'
          clear hM2 hput hrk3 hor2 hrw2 hou2 hck hrk2 hcu2 hgrow2 hown2
          generalize w2.setCell ⟨go, dr.length, none⟩ (.slice (some ⟨g2, 0, none⟩) (r.length + 1) cap2) = V2 at *
          refine wpAnyH_done (by kernel_rfl) ?_ _
          gi_wp2
          first
            | exact hfin
            | (rw [hsz]; exact hfin)
        · go_simp
          refine hK.out _ _ ⟨cell_below (((Below.refl _ _).alloc (Nat.le_refl _) _).drew) c3, cell_below (((Below.refl _ _).alloc (Nat.le_refl _) _).drew) cp⟩ (fun hS2 => ?_)
          clear hK K
          have hcuq := cell_below (((Below.refl _ _).alloc (Nat.le_refl _) (.cells #[.string (bs x.1)] 9)).drew) hcu
          refine wpAnyH_ready (rs := [9]) (by kernel_rfl) (by simp) (AllReadyH.cons rfl (fun K hK => ?_) AllReadyH.nil)
          go_simp
          refine hK.out _ _ hS2 (fun _ => ?_)
          clear hK K
          refine wpAnyH_ready (rs := [13]) (by kernel_rfl) (by simp) (AllReadyH.cons rfl (fun K hK => ?_) AllReadyH.nil)
          have hck := fun (V0 : World) => (ck_alloc V0 (.cells #[.string (bs x.1)] 9)).trans (ck_drew _)
          have hou2 := (hck _).owns hou
          refine step_append_lies _ rfl (.tmp 31) (.tmp 34) 38 rfl (B5 + 1) 9 i9 (.string ⟨#[]⟩) 1 16 Try.underlying38 gi gz0 gz1 gz2 rfl (by decide) _ r.length (strs r) rfl hou2 _ 1 1 [.string (bs x.1)] rfl rfl (World.news_of_block (heap_alloc_new _ _)) (by simp [Value.oneCell']) (by omega) (by unfold maxLen; omega) (by omega) (by have := b5.lt; simp; omega) _ rfl ?_
          intro g2 cap2 w2 hown2 hgrow2 hfr2 hlt2
          have hrk2 := ((RK.alloc (B5 + 1) _ (.cells #[.string (bs x.1)] 9)).trans (RK.drew _ _)).trans (RK.grow hou2 (.inr rfl) hgrow2)
          have cc3 := (hrk2.boxed (by omega) b3).cell
          have ccp := (cz _ (hrk2.piece hp)).1
          have hrw2 := hrw.ck (hck _)
          have hcu2 := hgrow2.cell (cell_below (((Below.refl _ _).alloc (Nat.le_refl _) (.cells #[.string (bs x.1)] 9)).drew) hcu) (fun e => hune e.symm)
          have hor2 := hrw2.1.kept hgrow2 (.inr (fun e => hune e.symm))
          have hfu2 : w2.frozen? ⟨go, dr.length, none⟩ = false := by
            rcases hor2.2 with ⟨e, _⟩ | ⟨gq, cq, curq, e, _, hblk, _⟩
            · cases e
            · simp only [Value.slice.injEq, Option.some.injEq, Addr.mk.injEq] at e
              obtain ⟨⟨rfl, _⟩, _⟩ := e
              simp [World.frozen?, hblk]
          have hput := (hrw2.put rfl (by have := b5.lt; simp; omega) hgrow2 hown2 hfr2).1
          have hrk3 := RK.grow hor2 (.inl rfl) (Lib.grownBy_setCell w2 go dr.length (.slice (some ⟨g2, 0, none⟩) (r.length + 1) cap2))
          have hM2 := hM1.put (by omega) (hrk2.trans hrk3) hput
          obtain ⟨b3', _, ⟨bq, b4'⟩, _, _, _, _, hp', _⟩ := id hM2
          refine hK.out _ _ ⟨cc3, ccp⟩ (fun hS3 => ?_)
          clear hK K
          simp only [List.getElem_toArray, List.getElem_cons_succ, List.getElem_cons_zero, Act.put, List.setIfInBounds_toArray, List.set_cons_zero, List.set_cons_succ]
          refine wpAnyH_take (i := 14) (v := ?_) rfl (by kernel_rfl) (by kernel_rfl) (by kernel_rfl) (fun _ _ _ h => h) (Or.inl ⟨by rfl, ?_⟩) hS3 ?_
          rotate_left
          · intro w' hSw; (try dsimp only at hSw); go_split_ands; go_simp; all_goals with_reducible rfl
          simp only [List.getElem_toArray, List.getElem_cons_succ, List.getElem_cons_zero, Act.put, List.setIfInBounds_toArray, List.set_cons_zero, List.set_cons_succ]
          refine wpAnyH_ready (rs := [15]) (by kernel_rfl) (by simp) (AllReadyH.cons rfl (fun K hK => ?_) AllReadyH.nil)
          go_simp
          refine hK.out _ _ ⟨b3'.cell, (cz _ hp').1⟩ (fun hS4 => ?_)
          clear hK K
          have zz := (cz _ hp').2
          have c4 := b4'.cell
          have f4 := b4'.frozen
          have hfin := hM2.fin (by omega) hst hm'
          clear hM2 hput hrk3 hor2 hrw2 hou2 hck hrk2 hcu2 hgrow2 hown2
          generalize w2.setCell ⟨go, dr.length, none⟩ (.slice (some ⟨g2, 0, none⟩) (r.length + 1) cap2) = V2 at *
          refine wpAnyH_done (by kernel_rfl) ?_ _
          gi_wp2
          first
            | exact hfin
            | (rw [hsz]; exact hfin)
  case done =>
    rintro D ys W hD rfl hI hK
    obtain ⟨⟨vo, vs, b3, hrw⟩, b4, b0, b1, b2, b5, hm, hbl⟩ := hI
    have hpd := parse_done (l := s.data.toList) (by intro e; have := len_data s; rw [e] at this; simp at this; omega) (by rw [len_data, ← hT]; exact hm)
    rw [len_data, ← hT] at hpd
    have HP := Lib.hid hpd
    clear hpd hm
    obtain ⟨vp, vk, vc, rfl⟩ := owns_slice hrw.1
    have c0 := b0.cell
    have c1 := b1.cell
    have c2 := b2.cell
    have c3 := b3.cell
    have f0 := b0.frozen
    have f1 := b1.frozen
    have f2 := b2.frozen
    gi_wp2
    have hd0 := hI0.2.2.2.2.2.1.lt
    have d0 := ((b0.set (.slice vp vk vc)).other (B' := B1) (by omega) (.int .i64 (s.size : Int))).other (B' := B2) (by omega) (.int .i64 0)
    have d1 := ((b1.other (B' := w.heap.size) (by omega) (.slice vp vk vc)).set (.int .i64 (s.size : Int))).other (B' := B2) (by omega) (.int .i64 0)
    have d2 := ((b2.other (B' := w.heap.size) (by omega) (.slice vp vk vc)).other (B' := B1) (by omega) (.int .i64 (s.size : Int))).set (.int .i64 0)
    have hr3 := ((hrw.low (B := w.heap.size) (by omega) (.slice vp vk vc)).low (B := B1) (by omega) (.int .i64 (s.size : Int))).low (B := B2) (by omega) (.int .i64 0)
    have hk3 := (((KeepsOthers.setCell W ⟨w.heap.size, 0, none⟩ (.slice vp vk vc)).trans (KeepsOthers.setCell _ ⟨B1, 0, none⟩ (.int .i64 (s.size : Int)))).trans (KeepsOthers.setCell _ ⟨B2, 0, none⟩ (.int .i64 0))).same D _ hK rfl
    have hbl3 := ((hbl.setCell (p := ⟨w.heap.size, 0, none⟩) (Nat.le_refl _) (.slice vp vk vc)).setCell (p := ⟨B1, 0, none⟩) (show w.heap.size ≤ B1 by omega) (.int .i64 (s.size : Int))).setCell (p := ⟨B2, 0, none⟩) (show w.heap.size ≤ B2 by omega) (.int .i64 0)
    refine ⟨by simp, .inl ⟨_, _, rfl, run_takeDeferred hk3, ?_⟩⟩
    generalize ((W.setCell ⟨w.heap.size, 0, none⟩ (Value.slice vp vk vc)).setCell ⟨B1, 0, none⟩ (Value.int IntKind.i64 (s.size : Int))).setCell ⟨B2, 0, none⟩ (Value.int IntKind.i64 0) = W9 at *
    have hck := ck_putObj (.deferred none) hk3 rfl
    have e0 := (hck.boxed d0).cell
    have e1 := (hck.boxed d1).cell
    have e2 := (hck.boxed d2).cell
    rw [HP.out]
    refine ⟨.tuple #[.slice vp vk vc, .int .i64 (s.size : Int), .int .i64 0], by simp [results, Try.results10, go_sem, e0, e1, e2], ⟨_, rfl, ?_, ?_⟩⟩
    · exact RowsV.of_rws (hr3.ck hck)
    · exact hbl3.trans (belowK_b (w := w) (Nat.le_refl _) W9 D _ _ (by omega) hk3 rfl rfl)
  case stop =>
    rintro D c pre W hD hpre ⟨rfl, p, x, rfl, hx, b0, b1, b2, hbl⟩ hK
    have hps := parse_stop (l := s.data.toList) (by intro e; have := len_data s; rw [e] at this; simp at this; omega) (by rw [len_data, ← hT]; exact hpre) hx
    have HP := Lib.hid hps
    clear hps
    have c0 := b0.cell
    have c1 := b1.cell
    have c2 := b2.cell
    gi_wp2
    refine ⟨by simp, .inl ⟨_, _, rfl, run_takeDeferred hK, ?_⟩⟩
    have hck := ck_putObj (.deferred none) hK rfl
    have e0 := (hck.boxed b0).cell
    have e1 := (hck.boxed b1).cell
    have e2 := (hck.boxed b2).cell
    rw [HP.out]
    refine ⟨.tuple #[.slice none 0 0, .int .i64 (x.2.2 : Int), .int .i64 2], by simp [results, Try.results10, go_sem, e0, e1, e2], ⟨_, rfl, RowsV.mk0, ?_⟩⟩
    exact hbl.trans (belowK_b (w := w) (Nat.le_refl _) W D _ _ (by omega) hK rfl rfl)

set_option maxHeartbeats 1000000 in
theorem parse_empty (s : ByteArray) (w : World) (h : s.size = 0) :
    Calls Try.prog 10 #[.string s] w fun e w' => ∃ v, e = .returned (.tuple #[v, .int .i64 ((Cs.parse s.data.toList).2.1 : Int), .int .i64 ((Cs.parse s.data.toList).2.2 : Int)]) ∧ RowsV w' v (Cs.parse s.data.toList).1 ∧ Below w.heap.size w w' := by
  have he := isEmpty_nil s h
  have hl : s.data.toList = [] := List.eq_nil_of_length_eq_zero (by rw [len_data]; exact h)
  have hp : Cs.parse s.data.toList = ([], 0, 0) := by rw [hl]; rfl
  rw [hp]
  clear hp hl
  go_enter Try.func10, Try.ntmps10
  go_wp2_with fail
  exact bodyPost_ret (v := .tuple #[.slice none 0 0, .int .i64 0, .int .i64 0]) (by simp [results, Try.results10, go_sem]) rfl ⟨_, rfl, RowsV.mk0, ((((Below.refl _ w).alloc (Nat.le_refl _) _).alloc (by simp) _).alloc (by simp; omega) _).alloc (by simp; omega) _⟩

/-- csv.Parse: a text's rows -/
theorem parse_any (s : ByteArray) (w : World) (hs : s.size ≤ 4294967280) :
    Calls Try.prog 10 #[.string s] w fun e w' => ∃ v, e = .returned (.tuple #[v, .int .i64 ((Cs.parse s.data.toList).2.1 : Int), .int .i64 ((Cs.parse s.data.toList).2.2 : Int)]) ∧ RowsV w' v (Cs.parse s.data.toList).1 ∧ Below w.heap.size w w' := by
  by_cases h : s.size = 0
  · exact parse_empty s w h
  · exact callsIn_wide.1 (parse_some s w hs (by omega))

end Go.Proofs.Ytnljlbhknbjinaa
