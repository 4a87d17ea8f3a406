/-
  num.Print: a number's digits, by the iterator of its magnitude's digits. Condition: the number is of 64 bits.
-/
import Derived.Test.YthbpkmmnoeikoaaKit
import Derived.Test.YthbpkmmnoeikoaaNumSpec
import Derived.Test.YthbpkmmnoeikoaaRange
import Derived.Test.YthbpkmmnoeikoaaReverse
import Derived.Shelf.Abstract
import Derived.Shelf.RegionOpen
import Derived.OwnWalkIn
import Derived.TacticsInMore
import Derived.LoopNIn
import Derived.LoopIn
import Derived.Maps.AppendAt
namespace Go.Proofs.Ythbpkmmnoeikoaa
open Go.RowKit Go.Shelf
attribute [local go_sem] Oper.semAt_some

/-- what the box holds, as a number -/
def boxN (b : Nat) (w : World) : Nat := match w.cell? ⟨b, 0, none⟩ with | some (.int _ n) => n.toNat | _ => 0

theorem digits_any (m : Int) (w : World) :
    Calls Try.prog 41 #[.int .u64 m] w fun e w' => e = .returned (.func (.func 80) #[] #[.pointer (some ⟨w.heap.size, 0, none⟩)]) ∧ w' = w.alloc (.cells #[.int .u64 m] 66) := by
  go_enter Try.func41, Try.ntmps41
  go_wp2
  go_ret
  exact ⟨rfl, rfl⟩

theorem rd_cons (f n : Nat) (h : 10 ≤ n) : Nm.rd (f + 1) n = Nm.ch (n % 10) :: Nm.rd f (n / 10) := by
  rw [Nm.rd, if_neg (by omega)]
theorem rd_one (f n : Nat) (h : n < 10) : Nm.rd (f + 1) n = [Nm.ch (n % 10)] := by
  rw [Nm.rd, if_pos h]

set_option maxRecDepth 100000 in
set_option maxHeartbeats 1000000 in
theorem digits1_in (n l Bx : Nat) (m : Nat) (hm : m < 18446744073709551616) (J : List UInt8 → World → Prop) (J1 : List UInt8 → UInt8 → World → Prop) (Jx : List UInt8 → World → Prop)
    (hstep : ∀ pre x A B, J pre A → pre ++ [x] <+: Nm.rd 20 m → (B = A ∨ ∃ v, B = A.setCell ⟨Bx, 0, none⟩ v) → J1 pre x B)
    (hY : ∀ pre x W1, J1 pre x W1 → pre ++ [x] <+: Nm.rd 20 m → YieldAt Fence.wide (n - 1) Try.prog l #[.int .u8 (x.toNat : Int)] W1 fun e W' =>
      (e = .returned (.bool true) ∧ J (pre ++ [x]) W' ∧ W'.heap[Bx]? = W1.heap[Bx]?) ∨ (e = .returned (.bool false) ∧ Jx (pre ++ [x]) W'))
    (W : World) (hB : Boxed W Bx 66 (.int .u64 (m : Int))) (h0 : J [] W) :
    CallsIn Fence.wide n Try.prog 80 #[.func (.yield l) #[] #[], .pointer (some ⟨Bx, 0, none⟩)] W fun e W' => (∃ v, e = .returned v) ∧
      ((∃ ys, ys = Nm.rd 20 m ∧ J ys W') ∨ (∃ pre, pre <+: Nm.rd 20 m ∧ Jx pre W')) := by
  refine callsIn_of_wp Try.func80 rfl trivial ?_ rfl
  simp only [Try.ntmps80, List.size_toArray, List.length_cons, List.length_nil, Nat.reduceAdd, Nat.reduceSub, Array.replicate_succ, Array.replicate_zero, List.push_toArray, List.append_toArray, List.nil_append, List.cons_append]
  gi_wp2
  gi_loopw [] (fun wr => ∃ (pre : List UInt8) (f cur : Nat) (A : World), Nm.rd 20 m = pre ++ Nm.rd (f + 1) cur ∧ cur < 18446744073709551616 ∧ cur < 10 ^ (f + 1) ∧ Boxed wr Bx 66 (.int .u64 (cur : Int)) ∧ J pre A ∧ (wr = A ∨ ∃ v, wr = A.setCell ⟨Bx, 0, none⟩ v)) (fun wr => boxN Bx wr)
  case atStart =>
    exact ⟨[], 19, m, W, rfl, hm, by omega, hB, h0, .inl rfl⟩
  case round =>
    obtain ⟨pre, f, cur, A, hx, hc1, hc2, hb, hJ, hAB⟩ := hrel
    have hc := hb.cell
    have hxn : ((Nm.ch (cur % 10)).toNat : Int) = 48 + (cur : Int) % 10 := by rw [Nm.toNat_ch (by omega)]; omega
    have hpre : pre ++ [Nm.ch (cur % 10)] <+: Nm.rd 20 m := by
      rw [hx, Nm.rd]; exact ⟨_, by simp; rfl⟩
    obtain ⟨fn, tmps, assign, body, hy, hR⟩ := hY pre _ wr (hstep pre _ A wr hJ hpre hAB) hpre
    rw [hxn] at hy
    gi_wp2
    refine ⟨fun h => (by cases h), ?_⟩
    refine hR.mono ?_
    rintro e W3 (⟨rfl, hJ3, hk3⟩ | ⟨rfl, hJx3⟩)
    · have hb3 : Boxed W3 Bx 66 (.int .u64 (cur : Int)) := hk3.trans hb
      have hc3 := hb3.cell
      have hf3 := hb3.frozen
      by_cases hlt : cur < 10
      · gi_wp2
        refine bodyPost_ret (results_none rfl _ _ _) rfl ?_
        refine ⟨⟨_, rfl⟩, .inl ⟨_, ?_, hJ3⟩⟩
        rw [hx, rd_one f cur hlt]
      · have h10 : 10 ≤ cur := by omega
        gi_wp2
        go_roundw
        case rel =>
          refine ⟨pre ++ [Nm.ch (cur % 10)], f - 1, cur / 10, W3, ?_, by omega, ?_, ?_, hJ3, .inr ⟨_, rfl⟩⟩
          · have hf0 : f ≠ 0 := by rintro rfl; simp at hc2; omega
            rw [hx, rd_cons f cur h10, Nat.sub_add_cancel (by omega)]; simp
          · have hf0 : f ≠ 0 := by rintro rfl; simp at hc2; omega
            rw [Nat.sub_add_cancel (by omega)]; rw [Nat.pow_succ] at hc2; omega
          · have := hb3.set (.int .u64 ((cur / 10 : Nat) : Int)); simpa using this
        case measure =>
          have h4 := (hb3.set (.int .u64 ((cur : Int) / 10))).cell
          unfold boxN
          rw [h4, hc]; simp; omega
    · gi_wp2
      refine bodyPost_ret (results_none rfl _ _ _) rfl ?_
      exact ⟨⟨_, rfl⟩, .inr ⟨_, hpre, hJx3⟩⟩

/-- digits(m) hands back a value that hands on m's digits, from behind -/
theorem digits_seq (n Bx m : Nat) (hm : m < 18446744073709551616) (w : World) (hB : Boxed w Bx 66 (.int .u64 (m : Int))) :
    SeqOf Fence.wide n Try.prog 80 #[.pointer (some ⟨Bx, 0, none⟩)] (fun x : UInt8 => #[.int .u8 (x.toNat : Int)]) (fun W W' => W'.heap[Bx]? = W.heap[Bx]?) (fun pre x => pre ++ [x] <+: Nm.rd 20 m)
      (fun _ _ A B => B = A ∨ ∃ v, B = A.setCell ⟨Bx, 0, none⟩ v) (fun A B => A = B) (fun ys => ys = Nm.rd 20 m) (fun pre => pre <+: Nm.rd 20 m) w :=
  fun l J J1 Jx W hW hst _ hY h0 => digits1_in n l Bx m hm J J1 Jx hst hY W ((hW.block Bx hB.lt).trans hB) h0

theorem info8 : (Try.prog.info? 5).map (fun i => (i.zero, i.size, i.bytes)) = some (some (.int .u8 0), 1, 1) := by kernel_rfl

/-- what holds between two rounds: the digits that have come are the bytes of b -/
def PrI (n₀ Bo Bx : Nat) (w0 : World) (pre : List UInt8) (W : World) : Prop :=
  (∃ v, Boxed W Bo 67 v ∧ W.ownsRow n₀ 5 1 v pre.length (pre.map encB)) ∧ (∃ u, Boxed W Bx 66 u) ∧ Below n₀ w0 W

theorem PrI.own {n₀ Bo Bx B : Nat} {w0 : World} (h0 : n₀ ≤ w0.heap.size) (hB : n₀ ≤ B) : OwnFrom B (PrI n₀ Bo Bx w0) := by
  refine OwnFrom.and ?_ (OwnFrom.and ?_ (ownFrom_below h0 hB))
  · have h := Own.from (holdsRow_own n₀ Bo 67 5 1 (fun pre : List UInt8 => pre.length) (fun pre => pre.map encB) (fun _ _ => True)) B
    intro s W W' row ⟨v, h1, h2⟩ hg hr
    obtain ⟨v, h1, h2, _⟩ := h s W W' row ⟨v, h1, h2, trivial⟩ hg hr
    exact ⟨v, h1, h2⟩
  · rintro s W W' row ⟨u, hu⟩ hg hr
    refine ⟨u, hu.kept hg (fun e => ?_)⟩
    obtain ⟨_, o, ho, hc⟩ := hr _ e.symm
    rw [show W.heap[Bx]? = _ from hu] at ho; cases ho; cases hc

theorem PrI.step {n₀ Bo Bx : Nat} {w0 A B : World} {pre : List UInt8} (hx : n₀ ≤ Bx) (hne : Bo ≠ Bx) (h : PrI n₀ Bo Bx w0 pre A) (hs : B = A ∨ ∃ v, B = A.setCell ⟨Bx, 0, none⟩ v) : PrI n₀ Bo Bx w0 pre B := by
  rcases hs with rfl | ⟨u, rfl⟩
  · exact h
  · obtain ⟨⟨v, h1, h2⟩, ⟨u', h3⟩, h4⟩ := h
    exact ⟨⟨v, h1.other hne u, h2.kept (grownBy_setCell' A Bx u) (.inr (h3.not_row (by decide) h2).symm)⟩, ⟨u, h3.set u⟩, h4.setCell (p := ⟨Bx, 0, none⟩) hx u⟩

/-- a block of cells that a slice owns is no block of deferred calls -/
theorem rowne {W : World} {base size k D : Nat} {e : TypeId} {v : Value} {xs : List Value} {o : Obj} (hr : W.ownsRow base e size v k xs) (hD : W.heap[D]? = some o) (ho : o.isCells = false := by rfl) : some D ≠ v.ownBlock := by
  rcases hr.2 with ⟨rfl, _⟩ | ⟨g, cap, cur, rfl, _, hgb, _⟩
  · simp [Value.ownBlock]
  · intro e'
    obtain rfl : D = g := by simpa [Value.ownBlock] using e'
    rw [hgb] at hD; cases hD; cases ho

theorem keepsNo_box {Bx B : Nat} {A A' : World} (h : A' = A ∨ ∃ v, A' = A.setCell ⟨Bx, 0, none⟩ v) : KeepsNo B A A' := by
  rcases h with rfl | ⟨v, rfl⟩
  · exact fun _ _ _ h _ => h
  · exact fun k o _ hk ho => (KeepsOthers.setCell A _ v).same k o hk ho

theorem Boxed.far {W w1 : World} {Bx B : Nat} {t : TypeId} {u v' : Value} {o : Obj} {row : Option Nat} (hu : Boxed W Bx t u) (hgrow : (W.alloc o).grownBy w1 row) (hne : some Bx ≠ row) (hB : Bx ≠ B) :
    Boxed (w1.setCell ⟨B, 0, none⟩ v') Bx t u := ((hu.alloc o).kept hgrow hne).other hB v'

set_option maxRecDepth 100000 in
set_option maxHeartbeats 2000000 in
theorem print_pos (k : Nat) (w : World) (hk : k ≤ 9223372036854775807) :
    CallsIn Fence.wide 6 Try.prog 18 #[.int .i64 (k : Int)] w fun e w' => e = .returned (str (Nm.pr (k : Int))) ∧ Below w.heap.size w w' := by
  obtain ⟨i0, hi, hz0, hz1, hz2⟩ := info_parts info8
  refine callsIn_of_wp_marks Try.func18 rfl trivial ?_ rfl
  simp only [Try.ntmps18, List.size_toArray, List.length_cons, List.length_nil, Nat.reduceAdd, Nat.reduceSub, Array.replicate_succ, Array.replicate_zero, List.push_toArray, List.append_toArray, List.nil_append, List.cons_append]
  have hk0 : decide ((k : Int) < 0) = false := by simp
  gi_wp2_with (refine ⟨trivial, ?_⟩; gi_at_call 41; refine (callsIn_wide.2 (digits_any _ _)).mono ?_; rintro e w' ⟨rfl, rfl⟩)
  have bO := Boxed.new w 67 (.slice none 0 0)
  have bN := Boxed.new (w.alloc (.cells #[.slice none 0 0] 67)) 66 (.int .u64 (k : Int))
  rw [World.size_alloc] at bN
  have hB0 : Below w.heap.size w ((w.alloc (.cells #[.slice none 0 0] 67)).alloc (.cells #[.int .u64 (k : Int)] 66)) := ((Below.refl _ w).alloc (Nat.le_refl _) _).alloc (by simp) _
  have hI0 : PrI w.heap.size w.heap.size (w.heap.size + 1) w [] ((w.alloc (.cells #[.slice none 0 0] 67)).alloc (.cells #[.int .u64 (k : Int)] 66)) :=
    ⟨⟨_, bO.alloc _, World.ownsRow_nil _ _ _ _⟩, ⟨_, bN⟩, hB0⟩
  refine wpIn_rangeFunc_of rfl (by omega) (gf := 80) (lb := #[.pointer (some ⟨w.heap.size + 1, 0, none⟩)]) rfl trivial (enters_of Try.func80 (by kernel_rfl) rfl)
    (digits_seq 5 (w.heap.size + 1) k (by omega) _ bN) (fun pre x A B hs => keepsNo_box hs) (fun A B hs => by subst hs; exact fun _ _ _ h _ => h) (fun h1 h2 => h2.trans h1)
    (fun W l o o' hl _ _ _ => World.putObj_heap_other (by simp at hl; omega)) (Below.refl _ _) (fun _ => rfl)
    (PrI w.heap.size w.heap.size (w.heap.size + 1) w) (fun pre _ => PrI w.heap.size w.heap.size (w.heap.size + 1) w pre) (fun _ _ _ => False)
    (PrI.own (Nat.le_refl _) (by simp; omega)) (fun _ => PrI.own (Nat.le_refl _) (by simp; omega)) (fun _ _ _ _ _ hs _ _ => hs)
    (fun pre x A B h _ hs => h.step (by omega) (by omega) hs) (fun pre A B h hs => by cases hs; exact h) hI0
    (fun x => { tmps := #[.int .i64 (k : Int), undef, .string ⟨#[]⟩, .int .u64 (k : Int), .pointer (some ⟨w.heap.size, 0, none⟩), .int .u8 (x.toNat : Int), .int .i64 (k : Int), .int .u64 (k : Int), .int .i64 (k : Int), .bool false, undef, undef, .int .u64 (k : Int),
      .func (.func 80) #[] #[.pointer (some ⟨w.heap.size + 1, 0, none⟩)], .int .u8 (x.toNat : Int), undef, undef, undef, undef, undef, undef, undef, undef, undef, undef, undef, undef, undef], defers := [] }) ?assign ?body ?done ?stop
  case assign =>
    intro l x W K hK
    gi_wp2
    exact hK
  case body =>
    rintro l pre x W ⟨⟨v, hv, hrow⟩, ⟨u, hu⟩, hB⟩ hok
    have hc := hv.cell
    have hpl : pre.length < 20 := by
      have h1 := hok.length_le
      have h2 := Nm.rd_len 20 k
      simp at h1; omega
    gi_wp2_with (gi_at_builtin; refine wpListIn_append_own _ rfl _ _ 67 rfl w.heap.size 5 i0 (.int .u8 0) 1 1 Try.underlying67 hi hz0 hz1 hz2 rfl (by decide) _ _ _ rfl (hrow.alloc _) ⟨W.heap.size, 0, none⟩ 1 1 [.int .u8 (x.toNat : Int)] rfl rfl (cell_one_new _ _ _) (by simp [Value.oneCell']) (by unfold maxLen; omega) (by omega) (by have := hB.size; simp; omega) ?_; intro v' w1 hown' hgrow _; obtain ⟨g', cap', rfl⟩ := ownsRow_succ hown'; obtain ⟨hv1, hv2, hr2, hk2, hb2⟩ := hv.appended (by decide) hrow hB.size (Nat.le_refl _) hown' hgrow; have hc1 := hv1.cell; have hf1 := hv1.frozen)
    have hu' := Boxed.far hu hgrow (hu.not_row (by decide) hrow) (B := w.heap.size) (v' := .slice (some ⟨g', 0, none⟩) (pre.length + 1) cap') (by omega)
    exact ⟨hk2.from _, Eq.trans hu' hu.symm, ⟨⟨_, hv2, by simpa [encB] using hr2⟩, ⟨u, hu'⟩, hB.trans hb2⟩⟩
  case done =>
    rintro D ys W hD rfl ⟨⟨v, hv, hrow⟩, _, hB⟩ hK
    have hc := hv.cell
    have hl : 0 < (Nm.rd 20 k).length := List.length_pos_iff.2 (Nm.rd_ne 19 k)
    gi_wp2_with (refine ⟨trivial, ?_⟩; gi_at_call 42; refine (callsIn_wide.2 (reverse_own _ _ _ _ hrow hl)).mono ?_; rintro e w1 ⟨rfl, hrow1, hg1⟩; have hc1 := (hv.kept hg1 (hv.not_row (by decide) hrow)).cell; have hcv := run_string_own w1 w.heap.size 5 67 9 Try.underlying67 Try.underlying5 Try.underlying9 v (Nm.rd 20 k).reverse (by simpa using hrow1))
    have hK1 := (hg1.block D (Array.getElem?_eq_some_iff.1 hK).1 (rowne hrow hK)).trans hK
    have hp : Nm.pr (k : Int) = (Nm.rd 20 k).reverse := by unfold Nm.pr; rw [if_neg (by omega)]; simp
    rw [hp]
    refine ⟨by simp, .inl ⟨_, _, rfl, run_takeDeferred hK1, ?_⟩⟩
    have hB1 : Below w.heap.size w w1 := hB.grown hg1 hB.size (fun j e => (hrow.lt j e).1)
    exact ⟨_, results_tmp rfl _ _ _, rfl, hB1.trans (belowK_b (w := w) (Nat.le_refl _) w1 D _ _ (by simp at hD; omega) hK1 rfl rfl)⟩
  case stop =>
    rintro D c pre W _ _ h _
    exact h.elim

set_option maxRecDepth 100000 in
set_option maxHeartbeats 2000000 in
theorem print_neg (k : Nat) (w : World) (h1 : 1 ≤ k) (hk : k ≤ 9223372036854775808) :
    CallsIn Fence.wide 6 Try.prog 18 #[.int .i64 (-(k : Int))] w fun e w' => e = .returned (str (Nm.pr (-(k : Int)))) ∧ Below w.heap.size w w' := by
  obtain ⟨i0, hi, hz0, hz1, hz2⟩ := info_parts info8
  refine callsIn_of_wp_marks Try.func18 rfl trivial ?_ rfl
  simp only [Try.ntmps18, List.size_toArray, List.length_cons, List.length_nil, Nat.reduceAdd, Nat.reduceSub, Array.replicate_succ, Array.replicate_zero, List.push_toArray, List.append_toArray, List.nil_append, List.cons_append]
  have hk0 : decide (-(k : Int) < 0) = true := by simp; omega
  gi_wp2_with (refine ⟨trivial, ?_⟩; gi_at_call 41; refine (callsIn_wide.2 (digits_any _ _)).mono ?_; rintro e w' ⟨rfl, rfl⟩)
  have hw : IntKind.u64.wrap (-IntKind.u64.wrap (-(k : Int))) = k := by simp only [IntKind.wrap_u64]; omega
  rw [hw]
  clear hw
  have bO := Boxed.new w 67 (.slice none 0 0)
  have bN := Boxed.new (w.alloc (.cells #[.slice none 0 0] 67)) 66 (.int .u64 (k : Int))
  rw [World.size_alloc] at bN
  have hB0 : Below w.heap.size w ((w.alloc (.cells #[.slice none 0 0] 67)).alloc (.cells #[.int .u64 (k : Int)] 66)) := ((Below.refl _ w).alloc (Nat.le_refl _) _).alloc (by simp) _
  have hI0 : PrI w.heap.size w.heap.size (w.heap.size + 1) w [] ((w.alloc (.cells #[.slice none 0 0] 67)).alloc (.cells #[.int .u64 (k : Int)] 66)) :=
    ⟨⟨_, bO.alloc _, World.ownsRow_nil _ _ _ _⟩, ⟨_, bN⟩, hB0⟩
  refine wpIn_rangeFunc_of rfl (by omega) (gf := 80) (lb := #[.pointer (some ⟨w.heap.size + 1, 0, none⟩)]) rfl trivial (enters_of Try.func80 (by kernel_rfl) rfl)
    (digits_seq 5 (w.heap.size + 1) k (by omega) _ bN) (fun pre x A B hs => keepsNo_box hs) (fun A B hs => by subst hs; exact fun _ _ _ h _ => h) (fun h1 h2 => h2.trans h1)
    (fun W l o o' hl _ _ _ => World.putObj_heap_other (by simp at hl; omega)) (Below.refl _ _) (fun _ => rfl)
    (PrI w.heap.size w.heap.size (w.heap.size + 1) w) (fun pre _ => PrI w.heap.size w.heap.size (w.heap.size + 1) w pre) (fun _ _ _ => False)
    (PrI.own (Nat.le_refl _) (by simp; omega)) (fun _ => PrI.own (Nat.le_refl _) (by simp; omega)) (fun _ _ _ _ _ hs _ _ => hs)
    (fun pre x A B h _ hs => h.step (by omega) (by omega) hs) (fun pre A B h hs => by cases hs; exact h) hI0
    (fun x => { tmps := #[.int .i64 (-(k : Int)), undef, .string ⟨#[]⟩, .int .u64 (k : Int), .pointer (some ⟨w.heap.size, 0, none⟩), .int .u8 (x.toNat : Int), .int .i64 (-(k : Int)), .int .u64 (IntKind.u64.wrap (-(k : Int))), .int .i64 (-(k : Int)), .bool true, .int .u64 (IntKind.u64.wrap (-(k : Int))), .int .u64 (k : Int), .int .u64 (k : Int),
      .func (.func 80) #[] #[.pointer (some ⟨w.heap.size + 1, 0, none⟩)], .int .u8 (x.toNat : Int), undef, undef, undef, undef, undef, undef, undef, undef, undef, undef, undef, undef, undef], defers := [] }) ?assign ?body ?done ?stop
  case assign =>
    intro l x W K hK
    gi_wp2
    exact hK
  case body =>
    rintro l pre x W ⟨⟨v, hv, hrow⟩, ⟨u, hu⟩, hB⟩ hok
    have hc := hv.cell
    have hpl : pre.length < 20 := by
      have h1 := hok.length_le
      have h2 := Nm.rd_len 20 k
      simp at h1; omega
    gi_wp2_with (gi_at_builtin; refine wpListIn_append_own _ rfl _ _ 67 rfl w.heap.size 5 i0 (.int .u8 0) 1 1 Try.underlying67 hi hz0 hz1 hz2 rfl (by decide) _ _ _ rfl (hrow.alloc _) ⟨W.heap.size, 0, none⟩ 1 1 [.int .u8 (x.toNat : Int)] rfl rfl (cell_one_new _ _ _) (by simp [Value.oneCell']) (by unfold maxLen; omega) (by omega) (by have := hB.size; simp; omega) ?_; intro v' w1 hown' hgrow _; obtain ⟨g', cap', rfl⟩ := ownsRow_succ hown'; obtain ⟨hv1, hv2, hr2, hk2, hb2⟩ := hv.appended (by decide) hrow hB.size (Nat.le_refl _) hown' hgrow; have hc1 := hv1.cell; have hf1 := hv1.frozen)
    have hu' := Boxed.far hu hgrow (hu.not_row (by decide) hrow) (B := w.heap.size) (v' := .slice (some ⟨g', 0, none⟩) (pre.length + 1) cap') (by omega)
    exact ⟨hk2.from _, Eq.trans hu' hu.symm, ⟨⟨_, hv2, by simpa [encB] using hr2⟩, ⟨u, hu'⟩, hB.trans hb2⟩⟩
  case done =>
    rintro D ys W hD rfl ⟨⟨v, hv, hrow⟩, _, hB⟩ hK
    have hc := hv.cell
    have hl20 := Nm.rd_len 20 k
    have hl : 0 < (Nm.rd 20 k ++ [45]).length := by simp
    gi_wp2_with (first
      | (gi_at_builtin; refine wpListIn_append_own _ rfl _ _ 67 rfl w.heap.size 5 i0 (.int .u8 0) 1 1 Try.underlying67 hi hz0 hz1 hz2 rfl (by decide) _ _ _ rfl (hrow.alloc _) ⟨W.heap.size, 0, none⟩ 1 1 [.int .u8 45] rfl rfl (cell_one_new _ _ _) (by simp [Value.oneCell']) (by unfold maxLen; omega) (by omega) (by have := hB.size; simp; omega) ?_; intro v' w1 hown' hgrow _; obtain ⟨g', cap', rfl⟩ := ownsRow_succ hown'; obtain ⟨hv1, hv2, hr2, hk2, hb2⟩ := hv.appended (by decide) hrow hB.size (Nat.le_refl _) hown' hgrow; have hc1 := hv1.cell; have hf1 := hv1.frozen; have hrA : (w1.setCell ⟨w.heap.size, 0, none⟩ (Value.slice (some ⟨g', 0, none⟩) ((Nm.rd 20 k).length + 1) cap')).ownsRow w.heap.size 5 1 (Value.slice (some ⟨g', 0, none⟩) ((Nm.rd 20 k).length + 1) cap') (Nm.rd 20 k ++ [45]).length ((Nm.rd 20 k ++ [45]).map encB) := (by simpa [encB] using hr2))
      | (refine ⟨trivial, ?_⟩; gi_at_call 42; refine (callsIn_wide.2 (reverse_own _ _ _ _ hrA hl)).mono ?_; rintro e w2 ⟨rfl, hrow1, hg1⟩; have hc2 := (hv2.kept hg1 (hv2.not_row (by decide) hrA)).cell; have hcv := run_string_own w2 w.heap.size 5 67 9 Try.underlying67 Try.underlying5 Try.underlying9 _ (Nm.rd 20 k ++ [45]).reverse (by simpa using hrow1)))
    have hK1 := hk2.same D _ hK rfl
    have hK2 := (hg1.block D (Array.getElem?_eq_some_iff.1 hK1).1 (rowne hrA hK1)).trans hK1
    have hp : Nm.pr (-(k : Int)) = 45 :: (Nm.rd 20 k).reverse := by
      unfold Nm.pr; rw [if_pos (by omega), show (-(k : Int)).natAbs = k from by omega]; simp
    rw [hp]
    refine ⟨by simp, .inl ⟨_, _, rfl, run_takeDeferred hK2, ?_⟩⟩
    have hB1 : Below w.heap.size w _ := (hB.trans hb2).grown hg1 (hB.trans hb2).size (fun j e => (hrA.lt j e).1)
    exact ⟨_, results_tmp rfl _ _ _, rfl, hB1.trans (belowK_b (w := w) (Nat.le_refl _) _ D _ _ (by simp at hD; omega) hK2 rfl rfl)⟩
  case stop =>
    rintro D c pre W _ _ h _
    exact h.elim

/-- num.Print: a number's digits -/
theorem print_any (n : Int) (w : World) (h1 : -9223372036854775808 ≤ n) (h2 : n ≤ 9223372036854775807) :
    Calls Try.prog 18 #[.int .i64 n] w fun e w' => e = .returned (str (Nm.pr n)) ∧ Below w.heap.size w w' := by
  rcases Int.lt_or_le n 0 with h | h
  · obtain ⟨k, rfl⟩ : ∃ k : Nat, n = -(k : Int) := ⟨n.natAbs, by omega⟩
    exact callsIn_wide.1 (print_neg k w (by omega) (by omega))
  · obtain ⟨k, rfl⟩ := Int.eq_ofNat_of_zero_le h
    exact callsIn_wide.1 (print_pos k w (by omega))

end Go.Proofs.Ythbpkmmnoeikoaa
