/-
  csv.pieces: the iterator of a text's pieces hands on what Cs.pcs lists. Condition: the text is shorter than 2^32 - 15 bytes.
-/
import Derived.Test.YtnljlbhknbjinaaKit
import Derived.Test.YtnljlbhknbjinaaCsvSpec
import Derived.Test.YtnljlbhknbjinaaCsvField
import Derived.Test.YtnljlbhknbjinaaRangeAx
import Derived.Shelf.Abstract
import Derived.Shelf.RegionOpen
import Derived.OwnWalkIn
import Derived.TacticsInMore
import Derived.LoopNIn
import Derived.LoopIn
import Derived.Maps.AppendAt
import Derived.BigFrameIn
import Derived.BigGuardIn
namespace Go.Proofs.Ytnljlbhknbjinaa
open Go.RowKit Go.Shelf
attribute [local go_sem] Oper.semAt_some
set_option linter.unusedVariables false

theorem pieces_any (s : ByteArray) (w : World) :
    Calls Try.prog 18 #[.string s] w fun e w' => e = .returned (.func (.func 24) #[] #[.pointer (some ⟨w.heap.size, 0, none⟩)]) ∧ w' = w.alloc (.cells #[.string s] 9) := by
  go_enter Try.func18, Try.ntmps18
  go_wp2
  go_ret
  exact ⟨rfl, rfl⟩

/-- the iterator's own cells lie as they lay -/
def KpP (Bx : Nat) (W W' : World) : Prop := W'.heap[Bx]? = W.heap[Bx]? ∧ ∀ (b : Nat) (c : Array Value), W.heap[b]? = some (.cells c 44 (0, 0)) → W'.heap[b]? = some (.cells c 44 (0, 0))
theorem KpP.trans {Bx : Nat} {A B C : World} (h : KpP Bx A B) (k : KpP Bx B C) : KpP Bx A C := ⟨k.1.trans h.1, fun b c hb => k.2 b c (h.2 b c hb)⟩

theorem pcs_cons (n : Nat) (l : Cs.F) (i : Nat) : Cs.pcs (n + 1) l i = Cs.sh i (Cs.fld l) :: (if (Cs.fld l).2.1 = 2 ∨ ((Cs.fld l).2.1 = 1 ∧ (Cs.fld l).2.2 = l.length) then [] else Cs.pcs n (l.drop (Cs.fld l).2.2) (i + (Cs.fld l).2.2)) := rfl

/-- at a round's head -/
def PcR (T : List Cs.P) (s : ByteArray) (Bx : Nat) (J : List Cs.P → World → Prop) (v : Value) (wr : World) : Prop :=
  ∃ (pre : List Cs.P) (n i : Nat) (A : World), T = pre ++ Cs.pcs (n + 1) (s.data.toList.drop i) i ∧ s.size - i < n + 1 ∧ i ≤ s.size ∧ v = .int .i64 (i : Int) ∧ J pre A ∧ Below A.heap.size A wr ∧ Boxed wr Bx 9 (.string s)

set_option maxRecDepth 100000 in
set_option maxHeartbeats 2000000 in
theorem pieces1_in (n l Bx : Nat) (s : ByteArray) (hs : s.size ≤ 4294967280) (T : List Cs.P) (hT : T = Cs.pcs (s.size + 1) s.data.toList 0) (J : List Cs.P → World → Prop) (J1 : List Cs.P → Cs.P → World → Prop) (Jx : List Cs.P → World → Prop)
    (hstep : ∀ pre x A B, J pre A → pre ++ [x] <+: T → Below A.heap.size A B → J1 pre x B)
    (hY : ∀ pre x W1, J1 pre x W1 → pre ++ [x] <+: T → YieldAt Fence.wide (n - 1) Try.prog l #[pv x] W1 fun e W' =>
      (e = .returned (.bool true) ∧ J (pre ++ [x]) W' ∧ KpP Bx W1 W') ∨ (e = .returned (.bool false) ∧ Jx (pre ++ [x]) W'))
    (W : World) (hB : Boxed W Bx 9 (.string s)) (h0 : J [] W) :
    CallsIn Fence.wide n Try.prog 24 #[.func (.yield l) #[] #[], .pointer (some ⟨Bx, 0, none⟩)] W fun e W' => (∃ v, e = .returned v) ∧
      ((∃ ys, ys = T ∧ J ys W') ∨ (∃ pre, pre <+: T ∧ Jx pre W')) := by
  refine callsIn_of_wp Try.func24 rfl trivial ?_ rfl
  simp only [Try.ntmps24, List.size_toArray, List.length_cons, List.length_nil, Nat.reduceAdd, Nat.reduceSub, Array.replicate_succ, Array.replicate_zero, List.push_toArray, List.append_toArray, List.nil_append, List.cons_append]
  gi_wp2
  gi_loopw [3] (PcR T s Bx J) (fun v wr => s.size - (intOf v).toNat)
  case atStart =>
    exact ⟨[], s.size, 0, W, hT, by omega, by omega, rfl, h0, Below.refl _ _, hB⟩
  case round =>
    obtain ⟨pre, m, i, A, hx, hm, hi, rfl, hJ, hbl, hb⟩ := hrel
    have hc := hb.cell
    have hfa := field_any s i wr hs hi
    obtain ⟨q1, q2, q3, q4⟩ := Cs.fld_len (s.data.toList.drop i)
    rw [List.length_drop, len_data] at q1 q3
    rw [pcs_cons, List.length_drop, len_data, List.drop_drop] at hx
    have hpre : pre ++ [Cs.sh i (Cs.fld (s.data.toList.drop i))] <+: T := by
      rw [hx]; exact ⟨_, by simp; rfl⟩
    have x1 : (Cs.sh i (Cs.fld (s.data.toList.drop i))).2.1 = (Cs.fld (s.data.toList.drop i)).2.1 := rfl
    have x2 : (Cs.sh i (Cs.fld (s.data.toList.drop i))).2.2 = i + (Cs.fld (s.data.toList.drop i)).2.2 := by simp [Cs.sh]; omega
    generalize Cs.fld (s.data.toList.drop i) = p at *
    generalize Cs.sh i p = x at *
    have r1 : i ≤ x.2.2 ∧ x.2.2 ≤ s.size := by omega
    have r2 : x.2.1 = 0 → i < x.2.2 := by omega
    have r3 : x.2.1 = 1 → x.2.2 = s.size ∨ i < x.2.2 := by omega
    have r4 : x.2.1 ≤ 2 := by omega
    have HX : Hid (T = pre ++ x :: if x.2.1 = 2 ∨ x.2.1 = 1 ∧ x.2.2 = s.size then [] else Cs.pcs m (s.data.toList.drop x.2.2) x.2.2) := by
      unfold Hid
      rw [hx]
      congr 2
      by_cases h : x.2.1 = 2 ∨ x.2.1 = 1 ∧ x.2.2 = s.size
      · rw [if_pos h, if_pos (by omega)]
      · rw [if_neg h, if_neg (by omega), x2]
    clear hx x1 x2 q1 q2 q3 q4
    gi_wp2_with (refine ⟨trivial, fun h => (by cases h), ?_⟩; refine (callsIn_wide.2 hfa).mono ?_; rintro e w1 ⟨rfl, hb1⟩; have hbx1 := (hb1.block Bx hb.lt).trans hb; obtain ⟨fn, tmps, assign, body, hy, hR⟩ := hY pre x (w1.alloc (.cells #[.string (bs x.1), .int .i64 (x.2.1 : Int), .int .i64 (x.2.2 : Int)] 44)) (hstep pre x A _ hJ hpre ((hbl.trans (hb1.mono hbl.size)).alloc (Nat.le_trans hbl.size hb1.size) _)) hpre)
    refine ⟨fun h => (by cases h), ?_⟩
    refine hR.mono ?_
    rintro e W3 (⟨rfl, hJ3, hk3⟩ | ⟨rfl, hJx3⟩)
    · have hb3 : Boxed W3 Bx 9 (.string s) := hk3.1.trans ((Below.heap_alloc _ _ _ (Array.getElem?_eq_some_iff.1 hbx1).1).trans hbx1)
      have hp3 := hk3.2 w1.heap.size _ (heap_alloc_new w1 _)
      have hc3 := hb3.cell
      have z0 : W3.cell? ⟨w1.heap.size, 1, none⟩ = some (.int .i64 (x.2.1 : Int)) := by simp [World.cell?, hp3]
      have z1 : W3.cell? ⟨w1.heap.size, 2, none⟩ = some (.int .i64 (x.2.2 : Int)) := by simp [World.cell?, hp3]
      have hend : (x.2.1 = 2 ∨ (x.2.1 = 1 ∧ x.2.2 = s.size)) → pre ++ [x] = T := fun h => by
        have := HX.out
        rw [if_pos h] at this
        exact this.symm
      have hgo : ¬ (x.2.1 = 2 ∨ (x.2.1 = 1 ∧ x.2.2 = s.size)) → T = (pre ++ [x]) ++ Cs.pcs m (s.data.toList.drop x.2.2) x.2.2 := fun h => by
        have := HX.out
        rw [if_neg h] at this
        rw [this]; simp
      clear HX
      by_cases hc2 : x.2.1 = 2
      · have b1 : ((x.2.1 : Int) == 2) = true := beq_iff_eq.2 (by omega)
        have he := Lib.hid (hend (.inl hc2))
        clear hend hgo hc2
        gi_wp2
        · rename_i hz _; exact absurd hz (by unfold undef; simp)
        · rename_i hz _; exact absurd hz (by unfold undef; simp)
        refine bodyPost_ret (results_none rfl _ _ _) rfl ?_
        exact ⟨⟨_, rfl⟩, .inl ⟨_, he.out, hJ3⟩⟩
      · have b1 : ((x.2.1 : Int) == 2) = false := beq_eq_false_iff_ne.2 (by omega)
        by_cases hc1 : x.2.1 = 1
        · have b2 : ((x.2.1 : Int) == 1) = true := beq_iff_eq.2 (by omega)
          by_cases hcs : x.2.2 = s.size
          · have b3 : ((x.2.2 : Int) == (s.size : Int)) = true := beq_iff_eq.2 (by omega)
            have he := Lib.hid (hend (.inr ⟨hc1, hcs⟩))
            clear hend hgo hc2 hc1 hcs
            gi_wp2
            refine bodyPost_ret (results_none rfl _ _ _) rfl ?_
            exact ⟨⟨_, rfl⟩, .inl ⟨_, he.out, hJ3⟩⟩
          · have b3 : ((x.2.2 : Int) == (s.size : Int)) = false := beq_eq_false_iff_ne.2 (by omega)
            have he := Lib.hid (hgo (by omega))
            have hlt : i < x.2.2 ∧ x.2.2 ≤ s.size := by omega
            clear hend hgo hc2 hc1 hcs r1 r2 r3 r4
            gi_wp2
            go_roundw
            case rel =>
              refine ⟨pre ++ [x], m - 1, x.2.2, W3, ?_, by omega, by omega, rfl, hJ3, Below.refl _ _, hb3⟩
              rw [Nat.sub_add_cancel (by omega)]; exact he.out
            case measure => simp [intOf]; omega
        · have b2 : ((x.2.1 : Int) == 1) = false := beq_eq_false_iff_ne.2 (by omega)
          have he := Lib.hid (hgo (by omega))
          have hlt : i < x.2.2 ∧ x.2.2 ≤ s.size := by omega
          clear hend hgo hc2 hc1 r1 r2 r3 r4
          gi_wp2
          go_roundw
          case rel =>
            refine ⟨pre ++ [x], m - 1, x.2.2, W3, ?_, by omega, by omega, rfl, hJ3, Below.refl _ _, hb3⟩
            rw [Nat.sub_add_cancel (by omega)]; exact he.out
          case measure => simp [intOf]; omega
    · gi_wp2
      · rename_i hz _; exact absurd hz (by unfold undef; simp)
      · rename_i hz _; exact absurd hz (by unfold undef; simp)
      refine bodyPost_ret (results_none rfl _ _ _) rfl ?_
      exact ⟨⟨_, rfl⟩, .inr ⟨_, hpre, hJx3⟩⟩

/-- pieces(s) hands back a value that hands on s's pieces -/
theorem pieces_seq (n Bx : Nat) (s : ByteArray) (hs : s.size ≤ 4294967280) (T : List Cs.P) (hT : T = Cs.pcs (s.size + 1) s.data.toList 0) (w : World) (hB : Boxed w Bx 9 (.string s)) :
    SeqOf Fence.wide n Try.prog 24 #[.pointer (some ⟨Bx, 0, none⟩)] (fun x : Cs.P => #[pv x]) (KpP Bx) (fun pre x => pre ++ [x] <+: T)
      (fun _ _ A B => Below A.heap.size A B) (fun A B => A = B) (fun ys => ys = T) (fun pre => pre <+: T) w :=
  fun l J J1 Jx W hW hst _ hY h0 => pieces1_in n l Bx s hs T hT J J1 Jx hst hY W ((hW.block Bx hB.lt).trans hB) h0

end Go.Proofs.Ytnljlbhknbjinaa
