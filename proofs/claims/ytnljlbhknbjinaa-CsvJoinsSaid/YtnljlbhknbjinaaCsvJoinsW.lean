/-
  The law CsvJoins, walked: it answers true. Condition: what came in is no longer than the form lets it be.
-/
import Derived.Test.YtnljlbhknbjinaaCsvBackW
import Derived.Laws.OwnMore
import Derived.Deep.AppendLies
import Derived.Deep.Slices
namespace Go.Proofs.Ytnljlbhknbjinaa
open Go Go.RowKit
set_option linter.unusedVariables false
set_option linter.unusedSimpArgs false

/-! ### append of all of a slice, nil or not -/
theorem run_append_none_any {P : Program} {w : World} (base : Nat) (t ty e : TypeId) (i : TypeInfo) (size : Nat) (ht : P.underlying t = some (.slice e)) (hi : P.info? e = some i)
    (v : Value) (n : Nat) (xs : List Value) (hown : w.ownsRow base e size v n xs) (c : Nat) :
    (Builtin.append_ #[t, t] ty #[v, .slice none 0 c]).run P w = .ok v w := by
  rcases hown.2 with ⟨rfl, rfl⟩ | ⟨g, cap, cur, rfl, _, _, hnc, _⟩
  · simp [Builtin.append_, run_underlying ht, sizeOf, typeInfo, hi, Builtin.lenOf, Builtin.firstCells]
  · simp [Builtin.append_, run_underlying ht, sizeOf, typeInfo, hi, Builtin.lenOf, Builtin.firstCells, hnc, storeCells]

theorem wpList_append_opt {P : Program} {w : World} {ops : Array Oper} {rest : List Oper} {o : Oper} {a : Act} {Q : Exit → Act → World → Prop} (hgd : o.guard = none) (s x : Operand) (t : TypeId)
    (ho : o.op = .call { callee := .builtin .append, args := #[s, x], argTypes := #[t, t] })
    (base : Nat) (e : TypeId) (i : TypeInfo) (z : Value) (size bytes : Nat) (ht : P.underlying t = some (.slice e)) (hi : P.info? e = some i) (hz : i.zero = some z)
    (hsize : i.size = size) (hby : i.bytes = bytes) (hzs : z.cells.size = size) (hsz : 0 < size)
    (v : Value) (n : Nat) (xs : List Value) (hs : a.eval s = v) (hown : w.ownsRow base e size v n xs)
    (p : Option Addr) (m c : Nat) (news : List Value) (hx : a.eval x = .slice p m c) (hp : p = none → m = 0) (hl : news.length = m * size) (hnews : ∀ ad, p = some ad → ∀ j u, news[j]? = some u → w.cell? (ad.add j) = some u) (h1 : ∀ u ∈ news, u.oneCell' = true)
    (h63 : n + m ≤ maxLen) (hbytes : (n + m) * bytes ≤ 140737488355328) (hbase : base ≤ w.heap.size)
    (h : ∀ v' w', w'.ownsRow base e size v' (n + m) (xs ++ news) → w.grownBy w' v.ownBlock → wpList P ops Q rest (a.put o.dst v') w') :
    wpList P ops Q (o :: rest) a w := by
  cases p with
  | some ad => exact wpList_append_own_at _ hgd s x t ho base e i z size bytes ht hi hz hsize hby hzs hsz v n xs hs hown ad m c news hx hl (hnews ad rfl) h1 h63 hbytes hbase (fun v' w' q1 q2 _ _ => h v' w' q1 q2)
  | none =>
    obtain rfl := hp rfl
    have hn : news = [] := List.eq_nil_of_length_eq_zero (by simpa using hl)
    subst hn
    refine wpList_plain hgd fun K hK => ?_
    have hrun := run_append_none_any (P := P) (w := w) base t o.type e i size ht hi v n xs hown c
    unfold Oper.wp
    simp [execOp, ho, resolve, invoke, builtin, hs, hx, hrun, Result.andThen]
    exact hK _ _ (h v w (by simpa using hown) (World.grownBy.refl _ _))

/-! ### rows, as the list of their slices -/
def Vals (w : World) (vs : List Value) (rs : List (List Cs.F)) : Prop := vs.length = rs.length ∧ ∀ (j : Nat) (x : Value) (r : List Cs.F), vs[j]? = some x → rs[j]? = some r → StrsV w x r
theorem Vals.below {w w' : World} {vs : List Value} {rs : List (List Cs.F)} (h : Vals w vs rs) (hb : Below w.heap.size w w') : Vals w' vs rs := ⟨h.1, fun j x r hx hr => (h.2 j x r hx hr).below hb⟩
theorem Vals.append {w : World} {a b : List Value} {r q : List (List Cs.F)} (h : Vals w a r) (k : Vals w b q) : Vals w (a ++ b) (r ++ q) := by
  refine ⟨by simp [h.1, k.1], fun j x y hx hy => ?_⟩
  by_cases hj : j < a.length
  · rw [List.getElem?_append_left hj] at hx
    rw [List.getElem?_append_left (by rw [← h.1]; exact hj)] at hy
    exact h.2 j x y hx hy
  · rw [List.getElem?_append_right (by omega)] at hx
    rw [List.getElem?_append_right (by rw [← h.1]; omega), ← h.1] at hy
    exact k.2 _ x y hx hy
theorem RowsV.vals {w : World} {v : Value} {rs : List (List Cs.F)} (h : RowsV w v rs) : ∃ p cap vs, v = .slice p rs.length cap ∧ (p = none → rs.length = 0) ∧ vs.length = rs.length ∧ (∀ ad, p = some ad → ∀ j u, vs[j]? = some u → w.cell? (ad.add j) = some u) ∧ (∀ u ∈ vs, u.oneCell' = true) ∧ Vals w vs rs := by
  obtain ⟨p, cap, rfl, hc⟩ := h.form
  have each : ∀ i, i < rs.length → ∃ x : Value, (∀ ad, p = some ad → w.cell? (ad.add i) = some x) ∧ x.oneCell' = true ∧ ∀ r, rs[i]? = some r → StrsV w x r := fun i hi => by
    obtain ⟨b, o, x, rfl, h1, h2⟩ := hc i hi
    refine ⟨x, fun ad had => ?_, ?_, fun r hr => ?_⟩
    · cases had
      rw [Go.WideShapes.add_plain]; exact h1
    · obtain ⟨q, c2, rfl, _⟩ := h2.form; rfl
    · rw [List.getElem?_eq_getElem hi] at hr; cases hr; exact h2
  obtain ⟨V, hV⟩ := Go.Deep.choose_lt each
  have hget : ∀ (j : Nat) (u : Value), ((List.range rs.length).map V)[j]? = some u → j < rs.length ∧ u = V j := fun j u hu => by
    have hj := (List.getElem?_eq_some_iff.1 hu).1
    rw [List.length_map, List.length_range] at hj
    refine ⟨hj, ?_⟩
    rw [List.getElem?_map, List.getElem?_range hj] at hu
    simpa using hu.symm
  refine ⟨p, cap, (List.range rs.length).map V, rfl, ?_, by simp, ?_, ?_, by simp, ?_⟩
  · rintro rfl
    rcases Nat.eq_zero_or_pos rs.length with h0 | h0
    · exact h0
    · obtain ⟨b, o, x, h1, _⟩ := hc 0 h0; cases h1
  · intro ad had j u hu
    obtain ⟨hj, rfl⟩ := hget j u hu
    exact (hV j hj).1 ad had
  · intro u hu
    obtain ⟨i, hi, rfl⟩ := List.mem_map.1 hu
    exact (hV i (List.mem_range.1 hi)).2.1
  · intro j x r hx hr
    obtain ⟨hj, rfl⟩ := hget j x hx
    exact (hV j hj).2.2 r hr
theorem RowsV.of_owns {w : World} {base n : Nat} {v : Value} {vs : List Value} {rs : List (List Cs.F)} (h : w.ownsRow base 38 1 v n vs) (hn : n = rs.length) (hv : Vals w vs rs) : RowsV w v rs := by
  subst hn
  rcases owns_cells h with ⟨rfl, h0⟩ | ⟨b, cap, rfl, hc⟩
  · obtain rfl := List.eq_nil_of_length_eq_zero h0
    exact RowsV.mk0
  · refine RowsV.mk (fun j hj => ?_)
    have hj2 : j < vs.length := by rw [hv.1]; exact hj
    exact ⟨vs[j], hc j _ (List.getElem?_eq_getElem hj2), hv.2 j _ _ (List.getElem?_eq_getElem hj2) (List.getElem?_eq_getElem hj)⟩

theorem same_self2 (rs : List (List Cs.F)) (h : Cs.wt rs ≤ 1003010000) (W : World) (u v : Value) (hu : RowsV W u rs) (hv : RowsV W v rs) : Calls Try.prog 12 #[u, v] W fun e w' => e = .returned (.bool true) ∧ Below W.heap.size W w' := by
  have h1 := Cs.wt_len rs
  have h2 : ∀ r ∈ rs, r.length ≤ 4294967296 := fun r hr => by have := Cs.wt_mem hr; have := Cs.wr_len r; omega
  refine (same_any u v rs rs W hu hv (by omega) (by omega) h2 h2).mono ?_
  rintro e w' ⟨rfl, hb⟩
  exact ⟨ret_b (by simp), hb⟩

/-- a text behind a printed one -/
theorem parse_behind (rs : List (List Cs.F)) (h : Cs.wt rs ≤ 2000) (hb : Cs.bad rs = false) (s : ByteArray) (hs : s.size ≤ 1000) (W : World) : Calls Try.prog 10 #[.string (bs (Cs.rowsT rs) ++ s)] W fun e w' =>
    ∃ v, e = .returned (.tuple #[v, .int .i64 (((Cs.rowsT rs).length : Int) + ((Cs.parse s.data.toList).2.1 : Int)), .int .i64 ((Cs.parse s.data.toList).2.2 : Int)]) ∧ RowsV w' v (if (Cs.parse s.data.toList).2.2 = 0 then rs ++ (Cs.parse s.data.toList).1 else []) ∧ Below W.heap.size W w' := by
  have h2 := Cs.rowsT_max rs
  have he : bs (Cs.rowsT rs) ++ s = bs (Cs.rowsT rs ++ s.data.toList) := by
    rw [← bs_append]; rfl
  rw [he]
  refine (parse_any _ W (by rw [bs_size, List.length_append, len_data]; omega)).mono ?_
  rintro e w' ⟨v, rfl, hv, hb'⟩
  rw [bs_data, Cs.parse_join rs _ hb] at *
  refine ⟨v, ?_, ?_, hb'⟩
  · by_cases h0 : (Cs.parse s.data.toList).2.2 = 0
    · rw [if_pos h0, h0]; simp
    · rw [if_neg h0]; simp
  · by_cases h0 : (Cs.parse s.data.toList).2.2 = 0
    · rw [if_pos h0] at hv ⊢; exact hv
    · rw [if_neg h0] at hv ⊢; exact hv

set_option maxHeartbeats 8000000 in
set_option maxRecDepth 100000 in
theorem joins_walk (v : Value) (rs : List (List Cs.F)) (s : ByteArray) (w : World) (hv : RowsV w v rs) (hn : rs.length ≤ 140737488355328) (hr : ∀ r ∈ rs, r.length ≤ 140737488355328 ∧ ∀ f ∈ r, f.length ≤ 140737488355328) (hs : s.size ≤ maxLen) :
    Calls Try.prog 6 #[v, .string s] w fun e w' => e = .returned (.bool true) ∧ Below w.heap.size w w' := by
  have hg := fun W h => great_any v rs W h hn hr
  by_cases h1 : 2000 < Cs.wt rs
  · rw [decide_eq_true h1] at hg
    have HG := Lib.hid hg
    clear hg
    go_enter Try.func6, Try.ntmps6
    go_wp2_with fail
    refine (alive_any _).mono ?_
    rintro e w1 ⟨rfl, hb1⟩
    go_wp2_with fail
    refine (HG.out _ (hv.below hb1)).mono ?_
    rintro e w2 ⟨rfl, hb2⟩
    go_wp2_with fail
    go_ret
    exact ⟨rfl, chain hb1 hb2⟩
  rw [decide_eq_false h1] at hg
  have HG := Lib.hid hg
  clear hg
  by_cases h2 : s.size ≤ 1000
  · have t0 : (decide ((s.size : Int) > 1000)) = false := decide_eq_false (by omega)
    have hwt : Cs.wt rs ≤ 1003004002 := by omega
    cases hbr : Cs.bad rs with
    | true =>
      have HPR := Lib.hid (print_bad rs hwt hbr)
      clear h1 hbr
      go_enter Try.func6, Try.ntmps6
      go_wp2_with fail
      refine (alive_any _).mono ?_
      rintro e w1 ⟨rfl, hb1⟩
      go_wp2_with fail
      refine (HG.out _ (hv.below hb1)).mono ?_
      rintro e w2 ⟨rfl, hb2⟩
      go_wp2_with fail
      refine (HPR.out _ _ ((hv.below hb1).below hb2)).mono ?_
      rintro e w3 ⟨rfl, hb3⟩
      go_wp2_with fail
      go_ret
      exact ⟨rfl, chain hb1 (chain hb2 hb3)⟩
    | false =>
      have HPR := Lib.hid (print_ok rs hwt hbr)
      have hj := parse_behind rs (by omega) hbr s h2
      have z1 : (bs (Cs.rowsT rs)).size = (Cs.rowsT rs).length := bs_size _
      have z2 := Cs.rowsT_max rs
      rcases parse_two_ways s h2 with ⟨at1, hat, hps0, hps⟩ | ⟨xs, at1, hat, hps0, hbx, hwx, hps⟩
      · rw [hps0] at hj
        have HPS := Lib.hid hps
        have HJ := Lib.hid hj
        clear hps hj hps0
        dsimp only at HJ
        go_enter Try.func6, Try.ntmps6
        go_wp2_with fail
        refine (alive_any _).mono ?_
        rintro e w1 ⟨rfl, hb1⟩
        go_wp2_with fail
        refine (HG.out _ (hv.below hb1)).mono ?_
        rintro e w2 ⟨rfl, hb2⟩
        go_wp2_with fail
        refine (HPR.out _ _ ((hv.below hb1).below hb2)).mono ?_
        rintro e w3 ⟨rfl, hb3⟩
        go_wp2_with fail
        refine (HPS.out _).mono ?_
        rintro e w4 ⟨px, cx, rfl, hb4⟩
        go_wp2_with fail
        refine (HJ.out _).mono ?_
        rintro e w5 ⟨vj, rfl, hvj, hb5⟩
        rw [if_neg (by omega)] at hvj
        obtain ⟨pj, cj, rfl, _⟩ := hvj.form
        go_wp2_with fail
        go_ret
        exact ⟨rfl, chain hb1 (chain hb2 (chain hb3 (chain hb4 hb5)))⟩
      · rw [hps0] at hj
        have HPS := Lib.hid hps
        have HJ := Lib.hid hj
        have hwa : Cs.wt (rs ++ xs) ≤ 1003010000 := by rw [Cs.wt_append]; omega
        have HSM := Lib.hid (same_self2 (rs ++ xs) hwa)
        have l1 := Cs.wt_len rs
        have l2 := Cs.wt_len xs
        clear hps hj hps0
        dsimp only at HJ
        obtain ⟨i0, hi, hz0, hz1, hz2⟩ := info_partsr infoSr
        go_enter Try.func6, Try.ntmps6
        go_wp2_with fail
        refine (alive_any _).mono ?_
        rintro e w1 ⟨rfl, hb1⟩
        go_wp2_with fail
        refine (HG.out _ (hv.below hb1)).mono ?_
        rintro e w2 ⟨rfl, hb2⟩
        go_wp2_with fail
        refine (HPR.out _ _ ((hv.below hb1).below hb2)).mono ?_
        rintro e w3 ⟨rfl, hb3⟩
        go_wp2_with fail
        refine (HPS.out _).mono ?_
        rintro e w4 ⟨vx, rfl, hvx4, hb4⟩
        go_wp2_with fail
        refine (HJ.out _).mono ?_
        rintro e w5 ⟨vj, rfl, hvj, hb5⟩
        simp only [if_true] at hvj
        have hv5 := ((((hv.below hb1).below hb2).below hb3).below hb4).below hb5
        have hvx5 := hvx4.below hb5
        have q5 := chain hb1 (chain hb2 (chain hb3 (chain hb4 hb5)))
        obtain ⟨pl, cl, vl, rfl, n1, n2, n3, n4, n5⟩ := hv5.vals
        obtain ⟨px, cx, vlx, rfl, x1, x2, x3, x4, x5⟩ := hvx5.vals
        clear hv5 hvx5 hvx4 hv hb1 hb2 hb3 hb4 hb5
        go_wp2_with (first
          | (at_builtin; refine wpList_append_opt rfl _ _ 23 rfl w5.heap.size 38 i0 (.slice none 0 0) 1 24 Try.underlying23 hi hz0 hz1 hz2 rfl (by decide) (.slice none 0 0) 0 [] rfl (World.ownsRow_nil _ _ _ _) pl rs.length cl vl rfl n1 (by omega) n3 n4 (by unfold maxLen; omega) (by omega) (Nat.le_refl _) ?_; intro v6 w6 hown6 hg6; have hb6 := (Below.refl w5.heap.size w5).grown hg6 (Nat.le_refl _) (fun k e => by cases e); have nv6 := n5.below hb6; have xv6 := x5.below hb6; have x36 : ∀ ad, px = some ad → ∀ j u, vlx[j]? = some u → w6.cell? (ad.add j) = some u := fun ad had j u hu => cell_below hb6 (x3 ad had j u hu); have hs6 := hb6.size; obtain ⟨vp6, vk6, vc6, rfl⟩ := owns_slicer hown6)
          | (at_builtin; refine wpList_append_opt rfl _ _ 23 rfl w5.heap.size 38 i0 (.slice none 0 0) 1 24 Try.underlying23 hi hz0 hz1 hz2 rfl (by decide) _ _ _ rfl hown6 px xs.length cx vlx rfl x1 (by omega) x36 x4 (by unfold maxLen; omega) (by omega) hs6 ?_; intro v7 w7 hown7 hg7; have hb7 := hb6.grown hg7 hs6 (fun k e => (hown6.lt k e).1); have nv7 := n5.below hb7; have xv7 := x5.below hb7; have hvj7 := hvj.below hb7; have hww := RowsV.of_owns (rs := rs ++ xs) hown7 (by simp) ((show Vals w7 ([] ++ vl) rs from nv7).append xv7); obtain ⟨vp7, vk7, vc7, rfl⟩ := owns_slicer hown7))
        refine (HSM.out _ _ _ hvj7 hww).mono ?_
        rintro e w8 ⟨rfl, hb8⟩
        go_wp2_with fail
        go_ret
        exact ⟨rfl, chain q5 (chain hb7 hb8)⟩
  · have t0 : (decide ((s.size : Int) > 1000)) = true := decide_eq_true (by omega)
    go_enter Try.func6, Try.ntmps6
    go_wp2_with fail
    refine (alive_any _).mono ?_
    rintro e w1 ⟨rfl, hb1⟩
    go_wp2_with fail
    refine (HG.out _ (hv.below hb1)).mono ?_
    rintro e w2 ⟨rfl, hb2⟩
    go_wp2_with fail
    go_ret
    exact ⟨rfl, chain hb1 hb2⟩

end Go.Proofs.Ytnljlbhknbjinaa
