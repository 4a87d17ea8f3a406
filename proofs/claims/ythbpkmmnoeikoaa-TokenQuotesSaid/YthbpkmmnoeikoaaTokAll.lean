/-
  token.All: a text's tokens, the place up to which they stand, the error (toks). Condition: the text is shorter than 2^32 - 15 bytes.
-/
import Derived.Test.YthbpkmmnoeikoaaTokToks
import Derived.Test.YthbpkmmnoeikoaaRangeAx
import Derived.Deep.AppendLies
import Derived.Maps.OwnIn
namespace Go.Proofs.Ythbpkmmnoeikoaa
open Go Go.RowKit Go.Shelf
attribute [local go_sem] Oper.semAt_some
set_option linter.unusedVariables false
set_option linter.unusedSimpArgs false

/-- every block of cells lies as it lay -/
def CKt (W W' : World) : Prop := ∀ (k : Nat) (o : Obj), W.heap[k]? = some o → o.isCells = true → W'.heap[k]? = some o
theorem CKt.grown {W W' : World} {row : Option Nat} (hg : W.grownBy W' row) (hr : ∀ r, row = some r → ∃ o : Obj, W.heap[r]? = some o ∧ o.isCells = false) : CKt W W' := fun k o ho hc =>
  (hg.block k (Array.getElem?_eq_some_iff.1 ho).1 (fun e => by obtain ⟨o', h1, h2⟩ := hr k e.symm; rw [ho] at h1; cases h1; rw [hc] at h2; cases h2)).trans ho
theorem CKt.below {W W' : World} (h : Below W.heap.size W W') : CKt W W' := fun k o ho _ => (h.block k (Array.getElem?_eq_some_iff.1 ho).1).trans ho
theorem CKt.boxed {W W' : World} {b : Nat} {t : TypeId} {v : Value} (h : CKt W W') (hb : Boxed W b t v) : Boxed W' b t v := h b _ hb rfl
theorem CKt.owns {W W' : World} {base size n : Nat} {e : TypeId} {v : Value} {xs : List Value} (h : CKt W W') (ho : W.ownsRow base e size v n xs) : W'.ownsRow base e size v n xs :=
  ⟨ho.1, ho.2.imp id (fun ⟨g, cap, cur, e1, e2, e3, rest⟩ => ⟨g, cap, cur, e1, e2, h g _ e3 rfl, rest⟩)⟩
theorem ckt_putObj {W : World} {D : Nat} {o : Obj} (o' : Obj) (h : W.heap[D]? = some o) (hc : o.isCells = false) : CKt W (W.putObj D o') := CKt.grown (grownBy_putObj' W D o') (fun r e => by cases e; exact ⟨o, h, hc⟩)

/-- the cells of a row of tokens -/
def tcells (ts : List Tk.Tok) : List Value := (ts.map (fun t => (tokCells t).toList)).flatten
theorem tcells_len (ts : List Tk.Tok) : (tcells ts).length = ts.length * 5 := by
  induction ts with
  | nil => rfl
  | cons t ts ih =>
    have : (tokCells t).toList.length = 5 := rfl
    simp only [tcells, List.map_cons, List.flatten_cons, List.length_append, List.length_cons] at ih ⊢
    omega
theorem tcells_snoc (ts : List Tk.Tok) (t : Tk.Tok) : tcells (ts ++ [t]) = tcells ts ++ (tokCells t).toList := by simp [tcells]

/-- between two rounds; e: what the error's cell holds -/
structure TaI (n₀ : Nat) (w0 : World) (pre : List (Tk.Tok × Nat × Int)) (e : Int) (W : World) : Prop where
  row : ∃ v, Boxed W n₀ 57 v ∧ W.ownsRow (n₀ + 5) 52 5 v (good pre).length (tcells (good pre))
  err : Boxed W (n₀ + 1) 27 (.int .i64 e)
  fin : Boxed W (n₀ + 2) 3 (.int .i64 (iend pre : Int))
  below : Below n₀ w0 W
  size : n₀ + 5 ≤ W.heap.size
section
variable {n₀ : Nat} {w0 W W' : World} {pre : List (Tk.Tok × Nat × Int)} {e : Int}
theorem TaI.ck (h : TaI n₀ w0 pre e W) (hc : CKt W W') (hb : Below n₀ w0 W') (hs : W.heap.size ≤ W'.heap.size) : TaI n₀ w0 pre e W' := by
  obtain ⟨v, h1, h2⟩ := h.row
  exact ⟨⟨v, hc.boxed h1, hc.owns h2⟩, hc.boxed h.err, hc.boxed h.fin, hb, Nat.le_trans h.size hs⟩
theorem TaI.own {B : Nat} (f : List (Tk.Tok × Nat × Int) → Int) (h0 : n₀ ≤ w0.heap.size) (hB : n₀ ≤ B) : OwnFrom B (fun pre => TaI n₀ w0 pre (f pre)) := by
  intro pre W W' row h hg hr
  exact h.ck (CKt.grown hg (fun r e => (hr r e).2)) (ownFrom_below h0 hB () W W' row h.below hg hr) hg.size
theorem TaI.fr (h : TaI n₀ w0 pre e W) : FrT n₀ W := by
  obtain ⟨v, h1, h2⟩ := h.row
  exact ⟨v, h1, fun b hb => (h2.lt b hb).2⟩
theorem TaI.step {x : Tk.Tok × Nat × Int} (h : TaI n₀ w0 pre e W) (hs : StT (n₀ + 1) x W W') : TaI n₀ w0 pre x.2.2 W' := by
  obtain ⟨A, hA, rfl⟩ := hs
  have h' := h.ck (CKt.below hA) (h.below.trans (hA.mono (Nat.le_trans (Nat.le_add_right _ 5) h.size))) hA.size
  obtain ⟨v, h1, h2⟩ := h'.row
  refine ⟨⟨v, h1.other (boxed_ne h'.err h1 (by decide)).symm _, h2.kept (grownBy_setCell' A (n₀ + 1) _) ?_⟩, h'.err.set _, h'.fin.other (by omega) _, h'.below.setCell (p := ⟨n₀ + 1, 0, none⟩) (show n₀ ≤ n₀ + 1 by omega) _, ?_⟩
  · cases hv : v.ownBlock with
    | none => exact .inl rfl
    | some g => exact .inr (fun e => by cases e; have := (h2.lt _ hv).1; omega)
  · have := h'.size; simpa [World.setCell] using this
/-- a round's end, of a token that is one -/
theorem TaI.put {x : Tk.Tok × Nat × Int} {g cap : Nat} {v : Value} {tmp : Obj} (h : TaI n₀ w0 pre x.2.2 W) (hv : Boxed W n₀ 57 v) (hx : x.2.2 = 0)
    (hown : W'.ownsRow (n₀ + 5) 52 5 (.slice (some ⟨g, 0, none⟩) ((good pre).length + 1) cap) ((good pre).length + 1) (tcells (good pre) ++ (tokCells x.1).toList))
    (hgrow : ((W.setCell ⟨n₀ + 2, 0, none⟩ (.int .i64 (x.2.1 : Int))).alloc tmp).grownBy W' v.ownBlock) (hg : v.ownBlock = some g ∨ g = W.heap.size + 1) (h0 : n₀ ≤ w0.heap.size) :
    Boxed W' n₀ 57 v ∧ TaI n₀ w0 (pre ++ [x]) x.2.2 (W'.setCell ⟨n₀, 0, none⟩ (.slice (some ⟨g, 0, none⟩) ((good pre).length + 1) cap)) ∧ KeepsOthers W (W'.setCell ⟨n₀, 0, none⟩ (.slice (some ⟨g, 0, none⟩) ((good pre).length + 1) cap)) ∧
    KpT n₀ (n₀ + 3) (n₀ + 4) (n₀ + 1) W (W'.setCell ⟨n₀, 0, none⟩ (.slice (some ⟨g, 0, none⟩) ((good pre).length + 1) cap)) := by
  obtain ⟨v', hv', hrow⟩ := h.row
  obtain rfl := boxed_uniq hv hv'
  have hlow : ∀ k, v.ownBlock = some k → n₀ + 5 ≤ k ∧ k < W.heap.size := hrow.lt
  have hsz := h.size
  have hsz1 : (W.setCell ⟨n₀ + 2, 0, none⟩ (.int .i64 (x.2.1 : Int))).heap.size = W.heap.size := by simp [World.setCell]
  have hgs := hgrow.size
  rw [World.size_alloc, hsz1] at hgs
  have hne : ∀ k, k < n₀ + 5 → v.ownBlock ≠ some k := fun k hk e => by have := (hlow k e).1; omega
  -- a block of W that is neither the end's cell nor the row
  have keep : ∀ (k : Nat) (o : Obj), W.heap[k]? = some o → k ≠ n₀ + 2 → v.ownBlock ≠ some k → W'.heap[k]? = some o := fun k o hk h2 hr => by
    have hlt := (Array.getElem?_eq_some_iff.1 hk).1
    refine (hgrow.block k (by rw [World.size_alloc, hsz1]; omega) (fun e => hr e.symm)).trans ?_
    exact (Below.heap_alloc _ _ _ (by rw [hsz1]; exact hlt)).trans ((grownBy_setCell' W (n₀ + 2) _).block k hlt (fun e => h2 (by cases e; rfl)) |>.trans hk)
  have b1 : Boxed W' n₀ 57 v := keep _ _ hv (by omega) (hne _ (by omega))
  have b2 : Boxed W' (n₀ + 1) 27 (.int .i64 x.2.2) := keep _ _ h.err (by omega) (hne _ (by omega))
  have b3 : Boxed W' (n₀ + 2) 3 (.int .i64 (x.2.1 : Int)) := by
    refine (hgrow.block _ (by rw [World.size_alloc, hsz1]; omega) (fun e => hne (n₀ + 2) (by omega) e.symm)).trans ?_
    exact (Below.heap_alloc _ _ _ (by rw [hsz1]; omega)).trans (h.fin.set _)
  have hr2 := hown.kept (grownBy_setCell' W' n₀ (.slice (some ⟨g, 0, none⟩) ((good pre).length + 1) cap)) (.inr (fun e => by have := (hown.lt _ rfl).1; cases e; omega))
  refine ⟨b1, ⟨⟨_, b1.set _, ?_⟩, b2.other (by omega) _, ?_, ?_, ?_⟩, ⟨?_, ?_⟩, ?_, ?_, ?_, ?_⟩
  · rw [good_snoc, if_pos hx, tcells_snoc, List.length_append]; exact hr2
  · rw [iend_snoc]; exact b3.other (by omega) _
  · refine Below.setCell (p := ⟨n₀, 0, none⟩) ?_ (Nat.le_refl _) _
    have hb := h.below.setCell (p := ⟨n₀ + 2, 0, none⟩) (show n₀ ≤ n₀ + 2 by omega) (.int .i64 (x.2.1 : Int))
    exact (hb.alloc (by rw [hsz1]; omega) tmp).grown hgrow (by rw [World.size_alloc, hsz1]; omega) (fun k e => by have := (hlow k e).1; omega)
  · simp only [World.setCell, Array.size_modify]; omega
  · simp only [World.setCell, Array.size_modify]; omega
  · intro k o hk hc
    have e1 : k ≠ n₀ + 2 := by
      rintro rfl
      have := (show W.heap[n₀ + 2]? = _ from h.fin).symm.trans hk
      cases this; cases hc
    have e2 : v.ownBlock ≠ some k := fun e => by
      rcases hrow.2 with ⟨rfl, _⟩ | ⟨g', cap', cur, rfl, _, hgb, _⟩
      · simp [Value.ownBlock] at e
      · simp only [Value.ownBlock, Option.some.injEq] at e
        subst e
        rw [hgb] at hk; cases hk; cases hc
    have e3 : k ≠ n₀ := by
      rintro rfl
      have := (show W.heap[k]? = _ from hv).symm.trans hk
      cases this; cases hc
    exact ((grownBy_setCell' W' n₀ _).block k (Array.getElem?_eq_some_iff.1 (keep k o hk e1 e2)).1 (fun e => e3 (by cases e; rfl))).trans (keep k o hk e1 e2)
  · have hx3 : n₀ + 3 < W.heap.size := by omega
    have hk := keep (n₀ + 3) _ (Array.getElem?_eq_getElem hx3) (by omega) (hne _ (by omega))
    exact ((grownBy_setCell' W' n₀ _).block _ (Array.getElem?_eq_some_iff.1 hk).1 (fun e => by cases e)).trans (hk.trans (Array.getElem?_eq_getElem hx3).symm)
  · have hx3 : n₀ + 4 < W.heap.size := by omega
    have hk := keep (n₀ + 4) _ (Array.getElem?_eq_getElem hx3) (by omega) (hne _ (by omega))
    exact ((grownBy_setCell' W' n₀ _).block _ (Array.getElem?_eq_some_iff.1 hk).1 (fun e => by cases e)).trans (hk.trans (Array.getElem?_eq_getElem hx3).symm)
  · exact (b2.other (by omega) _ : Boxed _ (n₀ + 1) _ _).trans (show W.heap[n₀ + 1]? = _ from h.err).symm
  · intro b c hb hn
    have e1 : b ≠ n₀ + 2 := by
      rintro rfl
      have := (show W.heap[n₀ + 2]? = _ from h.fin).symm.trans hb
      simp at this
    have e2 := hn v hv
    have e3 : b ≠ n₀ := by
      rintro rfl
      have := (show W.heap[b]? = _ from hv).symm.trans hb
      simp at this
    have hk := keep b _ hb e1 e2
    refine ⟨((grownBy_setCell' W' n₀ _).block b (Array.getElem?_eq_some_iff.1 hk).1 (fun e => e3 (by cases e; rfl))).trans hk, ?_⟩
    intro v2 hv2 e
    obtain rfl := boxed_uniq (b1.set _) hv2
    simp only [Value.ownBlock, Option.some.injEq] at e
    rcases hg with hg | hg
    · exact e2 (by rw [hg, e])
    · have := (Array.getElem?_eq_some_iff.1 hb).1
      omega

/-- a round's end, of an error -/
theorem TaI.skip {x : Tk.Tok × Nat × Int} (h : TaI n₀ w0 pre x.2.2 W) (hx : x.2.2 ≠ 0) :
    TaI n₀ w0 (pre ++ [x]) x.2.2 (W.setCell ⟨n₀ + 2, 0, none⟩ (.int .i64 (x.2.1 : Int))) ∧ KeepsOthers W (W.setCell ⟨n₀ + 2, 0, none⟩ (.int .i64 (x.2.1 : Int))) ∧ KpT n₀ (n₀ + 3) (n₀ + 4) (n₀ + 1) W (W.setCell ⟨n₀ + 2, 0, none⟩ (.int .i64 (x.2.1 : Int))) := by
  obtain ⟨v, hv, hrow⟩ := h.row
  have hsz := h.size
  have hg := grownBy_setCell' W (n₀ + 2) (.int .i64 (x.2.1 : Int))
  have hv2 := hv.other (show n₀ ≠ n₀ + 2 by omega) (.int .i64 (x.2.1 : Int))
  refine ⟨⟨⟨v, hv2, ?_⟩, h.err.other (by omega) _, ?_, h.below.setCell (p := ⟨n₀ + 2, 0, none⟩) (show n₀ ≤ n₀ + 2 by omega) _, ?_⟩, KeepsOthers.setCell _ _ _, hg.block _ (by omega) (fun e => by cases e), hg.block _ (by omega) (fun e => by cases e), hg.block _ (by omega) (fun e => by cases e), ?_⟩
  · rw [good_snoc, if_neg hx]
    refine hrow.kept hg (.inr (fun e => ?_))
    have := (hrow.lt _ e).1; omega
  · rw [iend_snoc]; exact h.fin.set _
  · simpa [World.setCell] using hsz
  · intro b c hb hn
    have e1 : b ≠ n₀ + 2 := by
      rintro rfl
      have := (show W.heap[n₀ + 2]? = _ from h.fin).symm.trans hb
      simp at this
    refine ⟨(hg.block b (Array.getElem?_eq_some_iff.1 hb).1 (fun e => e1 (by cases e; rfl))).trans hb, ?_⟩
    intro v2 hv3
    obtain rfl := boxed_uniq hv2 hv3
    exact hn v hv
end

theorem wpListIn_append_lies {F : Fence} {n : Nat} {P : Program} (w : World) {ops : Array Oper} {rest : List Oper} {o : Oper} {a : Act} {Q : Exit → Act → World → Prop}
    (hg : o.guard = none) (s x : Operand) (t : TypeId) (hop : o.op = Op.call { callee := Callee.builtin Builtin.append, args := #[s, x], argTypes := #[t, t] })
    (base : Nat) (e : TypeId) (i : TypeInfo) (z : Value) (size bytes : Nat) (h1 : P.underlying t = some (.slice e)) (h2 : P.info? e = some i) (h3 : i.zero = some z) (h4 : i.size = size) (h5 : i.bytes = bytes) (h6 : z.cells.size = size) (h7 : 0 < size)
    (v : Value) (k : Nat) (xs : List Value) (hs : a.eval s = v) (hown : w.ownsRow base e size v k xs) (ad : Addr) (m c : Nat) (news : List Value) (hx : a.eval x = .slice (some ad) m c) (hn : news.length = m * size)
    (hc : ∀ j u, news[j]? = some u → w.cell? (ad.add j) = some u) (h1c : ∀ u ∈ news, u.oneCell' = true) (hm : 0 < m) (b1 : k + m ≤ maxLen) (b2 : (k + m) * bytes ≤ 140737488355328) (b3 : base ≤ w.heap.size)
    (hK : ∀ g cap w', w'.ownsRow base e size (.slice (some ⟨g, 0, none⟩) (k + m) cap) (k + m) (xs ++ news) → w.grownBy w' v.ownBlock → (v.ownBlock = some g ∨ g = w.heap.size) → wpListIn F n P ops Q rest (a.put o.dst (.slice (some ⟨g, 0, none⟩) (k + m) cap)) w') :
    wpListIn F n P ops Q (o :: rest) a w := by
  refine wpListIn_plain hg fun K hK' => ?_
  obtain ⟨g, cap, w', hrun, r1, r2, r3, _⟩ := run_append_lies (P := P) w t o.type base e i z size bytes h1 h2 h3 h4 h5 h6 h7 v k xs hown ad m c news hn hc h1c hm b1 b2 b3 w.heap.size rfl
  unfold Oper.wpIn
  refine ⟨?_, ?_⟩
  · simp [Oper.about, hop, resolve, Target.leads, Sem.run_pure]
  · rw [Oper.semAt_plain F _ _ (by rw [hop]; intro c hc'; cases hc')]
    simp [execOp, hop, resolve, invoke, builtin, hs, hx, hrun, Result.andThen]
    exact hK' _ _ (hK g cap w' r1 r2 r3)

theorem infoTok : (Try.prog.info? 52).map (fun i => (i.zero, i.size, i.bytes)) = some (some (.agg #[.int .i64 0, .int .i64 0, .int .i64 0, .string ⟨#[]⟩, .int .i64 0]), 5, 48) := by kernel_rfl

/-- ahead of a round's body: the token lies in a cell of its own -/
def TaA (n₀ : Nat) (w0 : World) (act : Nat → Tk.Tok × Nat × Int → Act) (pre : List (Tk.Tok × Nat × Int)) (x : Tk.Tok × Nat × Int) (a : Act) (W : World) : Prop :=
  ∃ Bt, a = act Bt x ∧ TaI n₀ w0 pre x.2.2 W ∧ W.heap[Bt]? = some (.cells (tokCells x.1) 52 (0, 0)) ∧ NotRow n₀ W Bt
theorem TaA.own {n₀ : Nat} {w0 : World} {act : Nat → Tk.Tok × Nat × Int → Act} {B : Nat} {x : Tk.Tok × Nat × Int} {a : Act} (h0 : n₀ ≤ w0.heap.size) (hB : n₀ ≤ B) : OwnFrom B (fun pre => TaA n₀ w0 act pre x a) := by
  rintro pre W W' row ⟨Bp, ha, h1, h2, h3⟩ hg hr
  have hck := CKt.grown hg (fun r e => (hr r e).2)
  have h1' := TaI.own (fun _ => x.2.2) h0 hB pre W W' row h1 hg hr
  refine ⟨Bp, ha, h1', hck Bp _ h2 rfl, ?_⟩
  intro v hv e
  obtain ⟨v0, hv0, _⟩ := h1.row
  obtain rfl := boxed_uniq (hck.boxed hv0) hv
  exact h3 _ hv0 e

set_option maxRecDepth 100000 in
set_option maxHeartbeats 4000000 in
theorem all_in (s : ByteArray) (w : World) (hs : s.size ≤ 4294967280) (T : List (Tk.Tok × Nat × Int)) (hT : T = its (s.size + 1) s.data.toList 0) :
    CallsIn Fence.wide 6 Try.prog 35 #[.string s] w fun e w' => ∃ v, e = .returned (.tuple #[v, .int .i64 (iend T : Int), .int .i64 (ierr T)]) ∧ w'.ownsRow w.heap.size 52 5 v (good T).length (tcells (good T)) ∧ Below w.heap.size w w' := by
  obtain ⟨i0, hi, hz0, hz1, hz2⟩ := info_parts infoTok
  have hlen := its_len (s.size + 1) s.data.toList 0 (by omega)
  rw [← hT, len_data] at hlen
  have HT := Lib.hid hT
  clear hT
  refine callsIn_of_wp_marks Try.func35 rfl trivial ?_ rfl
  simp only [Try.ntmps35, List.size_toArray, List.length_cons, List.length_nil, Nat.reduceAdd, Nat.reduceSub, Array.replicate_succ, Array.replicate_zero, List.push_toArray, List.append_toArray, List.nil_append, List.cons_append]
  gi_wp2_with (refine ⟨trivial, ?_⟩; gi_at_call 75; refine (callsIn_wide.2 (tokens_any _ _ _)).mono ?_; rintro e w' ⟨rfl, rfl⟩)
  simp only [Nat.add_assoc, Nat.reduceAdd]
  obtain ⟨W5, hW5⟩ : ∃ W5, (((((w.alloc (.cells #[.slice none 0 0] 57)).alloc (.cells #[.int .i64 0] 27)).alloc (.cells #[.int .i64 0] 3)).alloc (.cells #[.string s] 9)).alloc (.cells #[.pointer (some ⟨w.heap.size + 1, 0, none⟩)] 106)) = W5 := ⟨_, rfl⟩
  have hsz : W5.heap.size = w.heap.size + 5 := by rw [← hW5]; simp
  have b0 := Boxed.new w 57 (.slice none 0 0)
  have b1 := Boxed.new (w.alloc (.cells #[.slice none 0 0] 57)) 27 (.int .i64 0)
  have b2 := Boxed.new ((w.alloc (.cells #[.slice none 0 0] 57)).alloc (.cells #[.int .i64 0] 27)) 3 (.int .i64 0)
  have b3 := Boxed.new (((w.alloc (.cells #[.slice none 0 0] 57)).alloc (.cells #[.int .i64 0] 27)).alloc (.cells #[.int .i64 0] 3)) 9 (.string s)
  have b4 := Boxed.new ((((w.alloc (.cells #[.slice none 0 0] 57)).alloc (.cells #[.int .i64 0] 27)).alloc (.cells #[.int .i64 0] 3)).alloc (.cells #[.string s] 9)) 106 (.pointer (some ⟨w.heap.size + 1, 0, none⟩))
  simp only [World.size_alloc] at b1 b2 b3 b4
  have c0 := (((b0.alloc (.cells #[.int .i64 0] 27)).alloc (.cells #[.int .i64 0] 3)).alloc (.cells #[.string s] 9)).alloc (.cells #[.pointer (some ⟨w.heap.size + 1, 0, none⟩)] 106)
  have c1 := ((b1.alloc (.cells #[.int .i64 0] 3)).alloc (.cells #[.string s] 9)).alloc (.cells #[.pointer (some ⟨w.heap.size + 1, 0, none⟩)] 106)
  have c2 := (b2.alloc (.cells #[.string s] 9)).alloc (.cells #[.pointer (some ⟨w.heap.size + 1, 0, none⟩)] 106)
  have c3 := b3.alloc (.cells #[.pointer (some ⟨w.heap.size + 1, 0, none⟩)] 106)
  have hbl : Below w.heap.size w (((((w.alloc (.cells #[.slice none 0 0] 57)).alloc (.cells #[.int .i64 0] 27)).alloc (.cells #[.int .i64 0] 3)).alloc (.cells #[.string s] 9)).alloc (.cells #[.pointer (some ⟨w.heap.size + 1, 0, none⟩)] 106)) := (((((Below.refl _ w).alloc (Nat.le_refl _) _).alloc (by simp) _).alloc (by simp; omega) _).alloc (by simp; omega) _).alloc (by simp; omega) _
  rw [hW5] at c0 c1 c2 c3 b4 hbl
  rw [hW5]
  clear hW5 b0 b1 b2 b3
  have hI0 : TaI w.heap.size w [] 0 W5 := ⟨⟨_, c0, World.ownsRow_nil _ _ _ _⟩, c1, c2, hbl, by omega⟩
  have hBp : Boxed W5 (w.heap.size + 4) 106 (.pointer (some ⟨w.heap.size + 1, 0, none⟩)) := b4
  have hBs : Boxed W5 (w.heap.size + 3) 9 (.string s) := c3
  refine wpIn_rangeFunc_fr rfl (by omega) (gf := 98) (lb := #[.pointer (some ⟨w.heap.size + 3, 0, none⟩), .pointer (some ⟨w.heap.size + 4, 0, none⟩)]) rfl trivial (enters_of Try.func98 (by kernel_rfl) rfl)
    (toks_seq 5 w.heap.size (w.heap.size + 3) (w.heap.size + 4) (w.heap.size + 1) s hs T HT.out W5 hBs hBp _ c1)
    (fun pre x A B hs => by
      obtain ⟨A', hA, rfl⟩ := hs
      intro k o _ hk hc
      have h1 := (hA.block k (Array.getElem?_eq_some_iff.1 hk).1).trans hk
      exact (KeepsOthers.setCell A' ⟨w.heap.size + 1, 0, none⟩ (.int .i64 x.2.2)).same k o h1 hc)
    (fun A B hs => by subst hs; exact fun _ _ _ h _ => h) (fun h1 h2 => h1.trans h2)
    (fun W l o o' hl ho hc _ => by
      have hne : ∀ k, k < w.heap.size + 5 → (W.putObj l o').heap[k]? = W.heap[k]? := fun k hk => World.putObj_heap_other (by omega)
      refine ⟨hne _ (by omega), hne _ (by omega), hne _ (by omega), fun b c hb hn => ⟨(World.putObj_heap_other (fun e => by subst e; rw [ho] at hb; cases hb; cases hc)).trans hb, fun v hv => hn v ((hne _ (by omega)).symm.trans hv)⟩⟩)
    (Below.refl _ _) (fun _ => rfl)
    (fun pre => TaI w.heap.size w pre (ierr pre)) (fun pre x => TaI w.heap.size w pre x.2.2)
    (TaA w.heap.size w (fun Bt x => { tmps := #[.string s, undef, .slice none 0 0, .int .i64 0, .int .i64 0, .pointer (some ⟨w.heap.size, 0, none⟩), .pointer (some ⟨w.heap.size + 1, 0, none⟩), .pointer (some ⟨w.heap.size + 2, 0, none⟩), .int .i64 (x.2.1 : Int), .pointer (some ⟨Bt, 0, none⟩), .string s,
      .func (.func 98) #[] #[.pointer (some ⟨w.heap.size + 3, 0, none⟩), .pointer (some ⟨w.heap.size + 4, 0, none⟩)], .int .i64 (x.2.1 : Int), tokV x.1, undef, undef, undef, undef, undef, undef, undef, undef, undef, undef], defers := [] }))
    (fun _ _ _ => False)
    (TaI.own (fun pre => ierr pre) (Nat.le_refl _) (by omega)) (fun x => TaI.own (fun _ => x.2.2) (Nat.le_refl _) (by omega)) (fun _ _ => TaA.own (Nat.le_refl _) (by omega)) (fun _ _ _ _ _ hs _ _ => hs)
    (fun pre x A B h _ hs => h.step hs) (fun pre A B h hs => by cases hs; exact h) (fun pre A h => h.fr) hI0 ?assign ?body ?done ?stop
  case assign =>
    intro l pre x W K hI hok hK
    unfold tokV
    gi_wp2
    have hh := heap_alloc_new W (.cells (tokCells x.1) 52)
    have hsW := hI.size
    have hbelow := fun k (hk : k < W.heap.size) => Below.heap_alloc W (.cells (tokCells x.1) 52) k hk
    obtain ⟨v0, hv0, hr0⟩ := hI.row
    have hv1 := hv0.alloc (.cells (tokCells x.1) 52)
    refine hK _ _ ((KeepsOthers.alloc W _).from _) ⟨hbelow _ (by omega), hbelow _ (by omega), hbelow _ (by omega), ?_⟩ ⟨W.heap.size, rfl, ?_, hh, ?_⟩
    · intro b c hb hn
      refine ⟨(hbelow b (Array.getElem?_eq_some_iff.1 hb).1).trans hb, fun v hv => ?_⟩
      obtain rfl := boxed_uniq hv1 hv
      exact hn _ hv0
    · exact hI.ck (CKt.below ((Below.refl _ W).alloc (Nat.le_refl _) _)) (hI.below.alloc (by omega) _) (by simp)
    · intro v hv e
      obtain rfl := boxed_uniq hv1 hv
      have := (hr0.lt _ e).2
      omega
  case body =>
    rintro l pre x a' W ⟨Bt, rfl, hI, ht, hnr⟩ hok
    unfold tokV
    have hsW := hI.size
    obtain ⟨v, hv, hrow⟩ := hI.row
    have hgl := good_len pre
    have hpl : (good pre).length < 4294967290 := by
      have h1 := hok.length_le
      simp at h1; omega
    have cf := hI.fin.cell
    have ff := hI.fin.frozen
    have hne : Bt ≠ w.heap.size + 2 := by
      rintro rfl
      have := (show W.heap[w.heap.size + 2]? = _ from hI.fin).symm.trans ht
      simp at this
    by_cases hx : x.2.2 = 0
    · have tx : (x.2.2 == 0) = true := beq_iff_eq.2 hx
      have q1 := (hI.err.other (show w.heap.size + 1 ≠ w.heap.size + 2 by omega) (.int .i64 (x.2.1 : Int))).cell
      have q0 := (hv.other (show w.heap.size ≠ w.heap.size + 2 by omega) (.int .i64 (x.2.1 : Int))).cell
      have hrow2 := hrow.kept (grownBy_setCell' W (w.heap.size + 2) (.int .i64 (x.2.1 : Int))) (by
        cases hv' : v.ownBlock with
        | none => exact .inl rfl
        | some g => exact .inr (fun e => by cases e; have := (hrow.lt _ hv').1; omega))
      have ht1 := row_other ht (fun e => hne e.symm) 0 (.int .i64 (x.2.1 : Int))
      have hwz : (W.setCell ⟨w.heap.size + 2, 0, none⟩ (.int .i64 (x.2.1 : Int))).heap.size = W.heap.size := by simp [World.setCell]
      obtain ⟨z0, z1, z2, z3, z4⟩ := tok_cells ht1
      have hnb := heap_alloc_new (W.setCell ⟨w.heap.size + 2, 0, none⟩ (.int .i64 (x.2.1 : Int))) (.cells (tokCells x.1) 52)
      rw [hwz] at hnb
      gi_wp2_with (gi_at_builtin; go_loud (refine wpListIn_append_lies _ rfl _ _ 57 rfl (w.heap.size + 5) 52 i0 _ 5 48 Try.underlying57 hi hz0 hz1 hz2 rfl (by decide) _ _ _ rfl (hrow2.alloc _) ⟨W.heap.size, 0, none⟩ 1 1 (tokCells x.1).toList rfl rfl (World.news_of_block hnb) (by simp [tokCells, Value.oneCell']) (by omega) (by unfold maxLen; omega) (by omega) (by rw [World.size_alloc, hwz]; omega) ?_; intro g cap w1 hown hgrow hgl2; obtain ⟨hv1, hI1, hk, hkp⟩ := hI.put hv hx hown hgrow (by rw [World.size_alloc, hwz] at hgl2; exact hgl2) (Nat.le_refl _); have hc1 := hv1.cell; have hf1 := hv1.frozen))
      rw [← ierr_snoc pre x] at hI1
      exact ⟨hk.from _, hkp, hI1⟩
    · have tx : (x.2.2 == 0) = false := beq_eq_false_iff_ne.2 hx
      have q1 := (hI.err.other (show w.heap.size + 1 ≠ w.heap.size + 2 by omega) (.int .i64 (x.2.1 : Int))).cell
      obtain ⟨hI1, hk, hkp⟩ := hI.skip hx
      gi_wp2
      rw [← ierr_snoc pre x] at hI1
      exact ⟨hk.from _, hkp, hI1⟩
  case done =>
    rintro D ys W hD hys hI hK
    rw [hys] at hI
    clear hys
    obtain ⟨v, hv, hrow⟩ := hI.row
    have hsW := hI.size
    have hc := hv.cell
    have hce := hI.err.cell
    have hcf := hI.fin.cell
    obtain ⟨vp, vk, vc, rfl⟩ : ∃ p k c, v = .slice p k c := by
      rcases hrow.2 with ⟨rfl, _⟩ | ⟨g, cap, cur, rfl, _⟩
      · exact ⟨_, _, _, rfl⟩
      · exact ⟨_, _, _, rfl⟩
    gi_wp2
    gi_region
    gi_wp2
    refine ⟨by simp, .inl ⟨_, _, rfl, run_takeDeferred (show W.drew.heap[D]? = _ from hK), ?_⟩⟩
    have hck := (CKt.below ((Below.refl _ W).drew)).owns hrow
    have hck2 := (ckt_putObj (.deferred none) (show W.drew.heap[D]? = _ from hK) rfl).owns hck
    refine ⟨.tuple #[.slice vp vk vc, .int .i64 (iend T : Int), .int .i64 (ierr T)], by simp [results, Try.results35, go_sem], ⟨_, rfl, ?_, ?_⟩⟩
    · rcases hck2.2 with h | ⟨g, cap, cur, h1, h2, h3⟩
      · exact ⟨hck2.1, .inl h⟩
      · exact ⟨hck2.1, .inr ⟨g, cap, cur, h1, by omega, h3⟩⟩
    · exact hI.below.drew.trans (belowK_b (w := w) (Nat.le_refl _) W.drew D _ _ (by omega) (show W.drew.heap[D]? = _ from hK) rfl rfl)
  case stop =>
    rintro D c pre W _ _ h _
    exact h.elim

end Go.Proofs.Ythbpkmmnoeikoaa
