/-
  token.tokens: the iterator of a text's tokens hands on what 'iall' lists, and lays each one's error where it was told to. Condition: the text is shorter than 2^32 - 15 bytes.
-/
import Derived.Test.YthbpkmmnoeikoaaTokItems
import Derived.Test.YthbpkmmnoeikoaaRangeFr
import Derived.Test.YthbpkmmnoeikoaaUtfValid
import Derived.Shelf.Abstract
import Derived.Shelf.RegionOpen
import Derived.OwnWalkIn
import Derived.TacticsInMore
import Derived.LoopNIn
import Derived.LoopIn
import Derived.Maps.AppendAt
import Derived.BigFrameIn
import Derived.BigGuardIn
namespace Go.Proofs.Ythbpkmmnoeikoaa
open Go Go.RowKit Go.Shelf
attribute [local go_sem] Oper.semAt_some
set_option linter.unusedVariables false
set_option linter.unusedSimpArgs false

theorem tokens_any (s : ByteArray) (wp : Addr) (w : World) :
    Calls Try.prog 75 #[.string s, .pointer (some wp)] w fun e w' => e = .returned (.func (.func 98) #[] #[.pointer (some ⟨w.heap.size, 0, none⟩), .pointer (some ⟨w.heap.size + 1, 0, none⟩)]) ∧
      w' = (w.alloc (.cells #[.string s] 9)).alloc (.cells #[.pointer (some wp)] 106) := by
  go_enter Try.func75, Try.ntmps75
  go_wp2
  go_ret
  exact ⟨rfl, rfl⟩

def tokCells (t : Tk.Tok) : Array Value := #[.int .i64 (t.kind : Int), .int .i64 (t.at' : Int), .int .i64 (t.end' : Int), str t.s, .int .i64 t.n]
theorem tokV_cells (t : Tk.Tok) : tokV t = .agg (tokCells t) := rfl

/-- b is not the block of the tokens that lie in the cell Bo -/
def NotRow (Bo : Nat) (A : World) (b : Nat) : Prop := ∀ v, Boxed A Bo 57 v → v.ownBlock ≠ some b
/-- the tokens of the cell Bo lie in a block that is there -/
def FrT (Bo : Nat) (A : World) : Prop := ∃ v, Boxed A Bo 57 v ∧ ∀ b, v.ownBlock = some b → b < A.heap.size
/-- the iterator's cells, and tokens that are none of the row's, lie as they lay -/
def KpT (Bo Bs Bp Bw : Nat) (A B : World) : Prop := B.heap[Bs]? = A.heap[Bs]? ∧ B.heap[Bp]? = A.heap[Bp]? ∧ B.heap[Bw]? = A.heap[Bw]? ∧
  ∀ b c, A.heap[b]? = some (.cells c 52 (0, 0)) → NotRow Bo A b → B.heap[b]? = some (.cells c 52 (0, 0)) ∧ NotRow Bo B b
theorem KpT.trans {Bo Bs Bp Bw : Nat} {A B C : World} (h : KpT Bo Bs Bp Bw A B) (k : KpT Bo Bs Bp Bw B C) : KpT Bo Bs Bp Bw A C :=
  ⟨k.1.trans h.1, k.2.1.trans h.2.1, k.2.2.1.trans h.2.2.1, fun b c hb hn => k.2.2.2 b c (h.2.2.2 b c hb hn).1 (h.2.2.2 b c hb hn).2⟩
/-- a step of the iterator's -/
def StT (Bw : Nat) (x : Tk.Tok × Nat × Int) (A B : World) : Prop := ∃ A', Below A.heap.size A A' ∧ B = A'.setCell ⟨Bw, 0, none⟩ (.int .i64 x.2.2)

/-- at a round's head -/
def TkR (T : List (Tk.Tok × Nat × Int)) (s : ByteArray) (Bs Bp Bw : Nat) (J : List (Tk.Tok × Nat × Int) → World → Prop) (v : Value) (wr : World) : Prop :=
  ∃ (pre : List (Tk.Tok × Nat × Int)) (n i : Nat), T = pre ++ its (n + 1) s.data.toList i ∧ s.size - i < n + 1 ∧ i ≤ s.size ∧ v = .int .i64 (i : Int) ∧ J pre wr ∧
    Boxed wr Bs 9 (.string s) ∧ Boxed wr Bp 106 (.pointer (some ⟨Bw, 0, none⟩)) ∧ ∃ e, Boxed wr Bw 27 e

theorem boxed_uniq {W : World} {b : Nat} {t t' : TypeId} {v v' : Value} (h : Boxed W b t v) (h' : Boxed W b t' v') : v = v' := by
  have := (show W.heap[b]? = _ from h).symm.trans h'
  simp at this; exact this.1
theorem boxed_ne {W : World} {b b' : Nat} {t t' : TypeId} {v v' : Value} (h : Boxed W b t v) (h' : Boxed W b' t' v') (ht : t ≠ t') : b ≠ b' := by
  rintro rfl
  have := (show W.heap[b]? = _ from h).symm.trans h'
  simp at this; exact ht this.2

theorem fresh_notRow {Bo Bw : Nat} {wr w1 : World} {u : Value} {o : Obj} (hF : FrT Bo wr) (hb : Below wr.heap.size wr w1) {e : Value} (he : Boxed wr Bw 27 e) :
    NotRow Bo ((w1.alloc o).setCell ⟨Bw, 0, none⟩ u) w1.heap.size := by
  obtain ⟨v, hv, hlt⟩ := hF
  have hs := hb.size
  have h1 : Boxed w1 Bo 57 v := (hb.block Bo hv.lt).trans hv
  have h2 : Boxed ((w1.alloc o).setCell ⟨Bw, 0, none⟩ u) Bo 57 v := (h1.alloc o).other (boxed_ne he hv (by decide)).symm _
  intro v' hv' e'
  obtain rfl := boxed_uniq h2 hv'
  have := hlt _ e'
  omega

set_option maxRecDepth 100000 in
set_option maxHeartbeats 4000000 in
theorem toks1_in (n l Bo Bs Bp Bw : Nat) (s : ByteArray) (hs : s.size ≤ 4294967280) (T : List (Tk.Tok × Nat × Int)) (hT : T = its (s.size + 1) s.data.toList 0) (J : List (Tk.Tok × Nat × Int) → World → Prop) (J1 : List (Tk.Tok × Nat × Int) → (Tk.Tok × Nat × Int) → World → Prop) (Jx : List (Tk.Tok × Nat × Int) → World → Prop)
    (hF : ∀ pre A, J pre A → FrT Bo A)
    (hstep : ∀ pre x A B, J pre A → pre ++ [x] <+: T → StT Bw x A B → J1 pre x B)
    (hY : ∀ pre x W1, J1 pre x W1 → pre ++ [x] <+: T → YieldAt Fence.wide (n - 1) Try.prog l #[.int .i64 (x.2.1 : Int), tokV x.1] W1 fun e W' =>
      (e = .returned (.bool true) ∧ J (pre ++ [x]) W' ∧ KpT Bo Bs Bp Bw W1 W') ∨ (e = .returned (.bool false) ∧ Jx (pre ++ [x]) W'))
    (W : World) (hB : Boxed W Bs 9 (.string s)) (hP : Boxed W Bp 106 (.pointer (some ⟨Bw, 0, none⟩))) (hE : ∃ e, Boxed W Bw 27 e) (h0 : J [] W) :
    CallsIn Fence.wide n Try.prog 98 #[.func (.yield l) #[] #[], .pointer (some ⟨Bs, 0, none⟩), .pointer (some ⟨Bp, 0, none⟩)] W fun e W' => (∃ v, e = .returned v) ∧
      ((∃ ys, ys = T ∧ J ys W') ∨ (∃ pre, pre <+: T ∧ Jx pre W')) := by
  refine callsIn_of_wp Try.func98 rfl trivial ?_ rfl
  simp only [Try.ntmps98, List.size_toArray, List.length_cons, List.length_nil, Nat.reduceAdd, Nat.reduceSub, Array.replicate_succ, Array.replicate_zero, List.push_toArray, List.append_toArray, List.nil_append, List.cons_append]
  gi_wp2
  gi_loopw [4] (TkR T s Bs Bp Bw J) (fun v wr => s.size - (intOf v).toNat)
  case atStart =>
    exact ⟨[], s.size, 0, hT, by omega, by omega, rfl, h0, hB, hP, hE⟩
  case round =>
    obtain ⟨pre, m, i, hx, hm, hi, rfl, hJ, hb, hp, er, he⟩ := hrel
    have hc := hb.cell
    have hcp := hp.cell
    have hna := next_pos s i wr hs hi
    have hok := next_ok s.data.toList i (by rw [len_data]; exact hi)
    rw [its_succ] at hx
    generalize Tk.next s.data.toList i = x at *
    have hpre : pre ++ [x] <+: T := by rw [hx]; exact ⟨_, by simp; rfl⟩
    have q2 := hok.hi
    rw [len_data] at q2
    have q3 := hok.go
    have HX := Lib.hid hx
    have HF := hF pre wr hJ
    have HS := Lib.hid (fun B hst => hstep pre x wr B hJ hpre hst)
    have HYY := Lib.hid (fun W1 h1 => hY pre x W1 h1 hpre)
    clear hx hok hF hstep
    unfold nextV tokV at hna
    unfold tokV at HYY
    gi_wp2_with (refine ⟨trivial, fun h => (by cases h), ?_⟩; refine (callsIn_wide.2 hna).mono ?_; rintro e w1 ⟨rfl, hb1⟩; have hp1 : Boxed w1 Bp 106 _ := Eq.trans (hb1.block Bp hp.lt) hp; have he1 : Boxed w1 Bw 27 _ := Eq.trans (hb1.block Bw he.lt) he; have hp2 := Boxed.alloc hp1 (.cells #[.int .i64 (x.1.kind : Int), .int .i64 (x.1.at' : Int), .int .i64 (x.1.end' : Int), .string (bs x.1.s), .int .i64 x.1.n] 52); have he2 := Boxed.alloc he1 (.cells #[.int .i64 (x.1.kind : Int), .int .i64 (x.1.at' : Int), .int .i64 (x.1.end' : Int), .string (bs x.1.s), .int .i64 x.1.n] 52); have hcp1 := Boxed.cell hp2; have hce1 := Boxed.cell he2; have hfe1 := Boxed.frozen he2; have hne : Bw ≠ w1.heap.size := (by have := he1.lt; omega); have ht3 := row_other (heap_alloc_new w1 (.cells #[.int .i64 (x.1.kind : Int), .int .i64 (x.1.at' : Int), .int .i64 (x.1.end' : Int), .string (bs x.1.s), .int .i64 x.1.n] 52)) hne 0 (.int .i64 x.2.2); obtain ⟨z0, z1, z2, z3, z4⟩ := tok_cells ht3; obtain ⟨fn, tmps, assign, body, hy, hR⟩ := HYY.out _ (HS.out _ ⟨_, hb1.alloc hb1.size (.cells #[.int .i64 (x.1.kind : Int), .int .i64 (x.1.at' : Int), .int .i64 (x.1.end' : Int), .string (bs x.1.s), .int .i64 x.1.n] 52), rfl⟩))
    refine ⟨fun h => (by cases h), ?_⟩
    refine hR.mono ?_
    rintro e W3 (⟨rfl, hJ3, hk3⟩ | ⟨rfl, hJx3⟩)
    · have hnr := fresh_notRow (u := .int .i64 x.2.2) (o := (.cells #[.int .i64 (x.1.kind : Int), .int .i64 (x.1.at' : Int), .int .i64 (x.1.end' : Int), .string (bs x.1.s), .int .i64 x.1.n] 52)) HF hb1 he
      obtain ⟨k1, k2, k3, k4⟩ := hk3
      obtain ⟨ht4, _⟩ := k4 _ _ ht3 hnr
      obtain ⟨y0, y1, y2, y3, y4⟩ := tok_cells ht4
      have hs3 : Boxed W3 Bs 9 (.string s) := k1.trans ((Boxed.alloc (show Boxed w1 Bs 9 (.string s) from (hb1.block Bs hb.lt).trans hb) (.cells #[.int .i64 (x.1.kind : Int), .int .i64 (x.1.at' : Int), .int .i64 (x.1.end' : Int), .string (bs x.1.s), .int .i64 x.1.n] 52)).other (boxed_ne he hb (by decide)).symm _)
      have hp3 : Boxed W3 Bp 106 (.pointer (some ⟨Bw, 0, none⟩)) := k2.trans (hp2.other (boxed_ne he hp (by decide)).symm _)
      have he3 : Boxed W3 Bw 27 (.int .i64 x.2.2) := k3.trans (he2.set _)
      clear z0 z1 z2 z3 z4 hR hy k1 k2 k3 k4 hcp1 hce1 hfe1 hna HYY HS HF
      by_cases h1 : x.2.2 = 0
      · have t1 : (x.2.2 == 0) = true := beq_iff_eq.2 h1
        have t1b : (x.2.2 != 0) = false := by simp [h1]
        by_cases h2 : x.1.kind = 0
        · have t2 : ((x.1.kind : Int) == 0) = true := beq_iff_eq.2 (by omega)
          have he : Hid (T = pre ++ [x]) := by unfold Hid; rw [HX.out, if_pos (.inr h2)]
          clear HX h1 h2
          gi_wp2
          refine bodyPost_ret (results_none rfl _ _ _) rfl ?_
          exact ⟨⟨_, rfl⟩, .inl ⟨_, he.out.symm, hJ3⟩⟩
        · have t2 : ((x.1.kind : Int) == 0) = false := beq_eq_false_iff_ne.2 (by omega)
          have hgo := q3 h1 h2
          have hx2 : Hid (T = (pre ++ [x]) ++ its (m - 1 + 1) s.data.toList x.2.1) := by
            unfold Hid
            rw [HX.out, if_neg (by omega), Nat.sub_add_cancel (by omega)]; simp
          clear HX h1 h2 q3
          gi_wp2
          go_roundw
          case rel => exact ⟨pre ++ [x], m - 1, x.2.1, hx2.out, by omega, q2, rfl, hJ3, hs3, hp3, _, he3⟩
          case measure => simp [intOf]; omega
      · have t1 : (x.2.2 == 0) = false := beq_eq_false_iff_ne.2 h1
        have t1b : (x.2.2 != 0) = true := by simp [h1]
        have he : Hid (T = pre ++ [x]) := by unfold Hid; rw [HX.out, if_pos (.inl h1)]
        clear HX h1
        gi_wp2
        all_goals first
          | (refine bodyPost_ret (results_none rfl _ _ _) rfl ?_; exact ⟨⟨_, rfl⟩, .inl ⟨_, he.out.symm, hJ3⟩⟩)
          | (rename_i hz _; exact absurd hz (by unfold undef; simp))
          | (rename_i hz; exact absurd hz (by unfold undef; simp))
    · gi_wp2
      all_goals first
        | (refine bodyPost_ret (results_none rfl _ _ _) rfl ?_; exact ⟨⟨_, rfl⟩, .inr ⟨_, hpre, hJx3⟩⟩)
        | (rename_i hz _; exact absurd hz (by unfold undef; simp))
        | (rename_i hz; exact absurd hz (by unfold undef; simp))

/-- tokens(s, wrong) hands back a value that hands on s's tokens -/
theorem toks_seq (n Bo Bs Bp Bw : Nat) (s : ByteArray) (hs : s.size ≤ 4294967280) (T : List (Tk.Tok × Nat × Int)) (hT : T = its (s.size + 1) s.data.toList 0) (w : World) (hB : Boxed w Bs 9 (.string s)) (hP : Boxed w Bp 106 (.pointer (some ⟨Bw, 0, none⟩))) (e : Value) (hE : Boxed w Bw 27 e) :
    SeqFr Fence.wide n Try.prog 98 #[.pointer (some ⟨Bs, 0, none⟩), .pointer (some ⟨Bp, 0, none⟩)] (fun x : Tk.Tok × Nat × Int => #[.int .i64 (x.2.1 : Int), tokV x.1]) (KpT Bo Bs Bp Bw) (fun pre x => pre ++ [x] <+: T)
      (fun _ x A B => StT Bw x A B) (fun A B => A = B) (FrT Bo) (fun ys => ys = T) (fun pre => pre <+: T) w :=
  fun l J J1 Jx W hW hF hst _ hY h0 => toks1_in n l Bo Bs Bp Bw s hs T hT J J1 Jx hF hst hY W ((hW.block Bs hB.lt).trans hB) ((hW.block Bp hP.lt).trans hP) ⟨e, (hW.block Bw hE.lt).trans hE⟩ h0

end Go.Proofs.Ythbpkmmnoeikoaa
