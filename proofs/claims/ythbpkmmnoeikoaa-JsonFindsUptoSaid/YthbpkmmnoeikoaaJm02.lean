/-
  Several texts in one, each with its own head below. Conditions: as each says.
-/
import Derived.Test.YthbpkmmnoeikoaaJm01
import Derived.Shelf.Abstract
import Derived.Shelf.RegionOpen
import Derived.OwnWalkIn
import Derived.TacticsInMore
import Derived.LoopNIn
import Derived.LoopIn
import Derived.Maps.AppendAt
import Derived.Shelf.Strings.Builder1
import Derived.Shelf.Small.Strs
import Derived.Shelf.Small.Wraps
import Derived.Shelf.Strings.BuilderF
import Derived.Shelf.Strings.BuilderK
import Derived.Shelf.Strings.Search1
import Derived.Shelf.Strings.Prefix
import Derived.Shelf.Slices.Turned
import Derived.Shelf.Slices.Equal
import Derived.Shelf.Slices.Empties2
import Derived.Test.YthbpkmmnoeikoaaProg
/-
  num.Print: a number's digits, by the iterator of its magnitude's digits. Condition: the number is of 64 bits.
-/
namespace Go.Proofs.Ythbpkmmnoeikoaa
open Go.RowKit Go.Shelf
attribute [local go_sem] Oper.semAt_some

/-- what the box holds, as a number -/
def boxN (b : Nat) (w : World) : Nat := match w.cell? ⟨b, 0, none⟩ with | some (.int _ n) => n.toNat | _ => 0

theorem digits_any (m : Int) (w : World) :
    Calls Try.prog 41 #[.int .u64 m] w fun e w' => e = .returned (.func (.func 80) #[] #[.pointer (some ⟨w.heap.size, 0, none⟩)]) ∧ w' = w.alloc (.cells #[.int .u64 m] 66) := by
  go_enter Try.func41, Try.ntmps41
  go_wp2
  go_ret
  exact ⟨rfl, rfl⟩

theorem rd_cons (f n : Nat) (h : 10 ≤ n) : Nm.rd (f + 1) n = Nm.ch (n % 10) :: Nm.rd f (n / 10) := by
  rw [Nm.rd, if_neg (by omega)]
theorem rd_one (f n : Nat) (h : n < 10) : Nm.rd (f + 1) n = [Nm.ch (n % 10)] := by
  rw [Nm.rd, if_pos h]

set_option maxRecDepth 100000 in
set_option maxHeartbeats 1000000 in
theorem digits1_in (n l Bx : Nat) (m : Nat) (hm : m < 18446744073709551616) (J : List UInt8 → World → Prop) (J1 : List UInt8 → UInt8 → World → Prop) (Jx : List UInt8 → World → Prop)
    (hstep : ∀ pre x A B, J pre A → pre ++ [x] <+: Nm.rd 20 m → (B = A ∨ ∃ v, B = A.setCell ⟨Bx, 0, none⟩ v) → J1 pre x B)
    (hY : ∀ pre x W1, J1 pre x W1 → pre ++ [x] <+: Nm.rd 20 m → YieldAt Fence.wide (n - 1) Try.prog l #[.int .u8 (x.toNat : Int)] W1 fun e W' =>
      (e = .returned (.bool true) ∧ J (pre ++ [x]) W' ∧ W'.heap[Bx]? = W1.heap[Bx]?) ∨ (e = .returned (.bool false) ∧ Jx (pre ++ [x]) W'))
    (W : World) (hB : Boxed W Bx 66 (.int .u64 (m : Int))) (h0 : J [] W) :
    CallsIn Fence.wide n Try.prog 80 #[.func (.yield l) #[] #[], .pointer (some ⟨Bx, 0, none⟩)] W fun e W' => (∃ v, e = .returned v) ∧
      ((∃ ys, ys = Nm.rd 20 m ∧ J ys W') ∨ (∃ pre, pre <+: Nm.rd 20 m ∧ Jx pre W')) := by
  refine callsIn_of_wp Try.func80 rfl trivial ?_ rfl
  simp only [Try.ntmps80, List.size_toArray, List.length_cons, List.length_nil, Nat.reduceAdd, Nat.reduceSub, Array.replicate_succ, Array.replicate_zero, List.push_toArray, List.append_toArray, List.nil_append, List.cons_append]
  gi_wp2
  gi_loopw [] (fun wr => ∃ (pre : List UInt8) (f cur : Nat) (A : World), Nm.rd 20 m = pre ++ Nm.rd (f + 1) cur ∧ cur < 18446744073709551616 ∧ cur < 10 ^ (f + 1) ∧ Boxed wr Bx 66 (.int .u64 (cur : Int)) ∧ J pre A ∧ (wr = A ∨ ∃ v, wr = A.setCell ⟨Bx, 0, none⟩ v)) (fun wr => boxN Bx wr)
  case atStart =>
    exact ⟨[], 19, m, W, rfl, hm, by omega, hB, h0, .inl rfl⟩
  case round =>
    obtain ⟨pre, f, cur, A, hx, hc1, hc2, hb, hJ, hAB⟩ := hrel
    have hc := hb.cell
    have hxn : ((Nm.ch (cur % 10)).toNat : Int) = 48 + (cur : Int) % 10 := by rw [Nm.toNat_ch (by omega)]; omega
    have hpre : pre ++ [Nm.ch (cur % 10)] <+: Nm.rd 20 m := by
      rw [hx, Nm.rd]; exact ⟨_, by simp; rfl⟩
    obtain ⟨fn, tmps, assign, body, hy, hR⟩ := hY pre _ wr (hstep pre _ A wr hJ hpre hAB) hpre
    rw [hxn] at hy
    gi_wp2
    refine ⟨fun h => (by cases h), ?_⟩
    refine hR.mono ?_
    rintro e W3 (⟨rfl, hJ3, hk3⟩ | ⟨rfl, hJx3⟩)
    · have hb3 : Boxed W3 Bx 66 (.int .u64 (cur : Int)) := hk3.trans hb
      have hc3 := hb3.cell
      have hf3 := hb3.frozen
      by_cases hlt : cur < 10
      · gi_wp2
        refine bodyPost_ret (results_none rfl _ _ _) rfl ?_
        refine ⟨⟨_, rfl⟩, .inl ⟨_, ?_, hJ3⟩⟩
        rw [hx, rd_one f cur hlt]
      · have h10 : 10 ≤ cur := by omega
        gi_wp2
        go_roundw
        case rel =>
          refine ⟨pre ++ [Nm.ch (cur % 10)], f - 1, cur / 10, W3, ?_, by omega, ?_, ?_, hJ3, .inr ⟨_, rfl⟩⟩
          · have hf0 : f ≠ 0 := by rintro rfl; simp at hc2; omega
            rw [hx, rd_cons f cur h10, Nat.sub_add_cancel (by omega)]; simp
          · have hf0 : f ≠ 0 := by rintro rfl; simp at hc2; omega
            rw [Nat.sub_add_cancel (by omega)]; rw [Nat.pow_succ] at hc2; omega
          · have := hb3.set (.int .u64 ((cur / 10 : Nat) : Int)); simpa using this
        case measure =>
          have h4 := (hb3.set (.int .u64 ((cur : Int) / 10))).cell
          unfold boxN
          rw [h4, hc]; simp; omega
    · gi_wp2
      refine bodyPost_ret (results_none rfl _ _ _) rfl ?_
      exact ⟨⟨_, rfl⟩, .inr ⟨_, hpre, hJx3⟩⟩

/-- digits(m) hands back a value that hands on m's digits, from behind -/
theorem digits_seq (n Bx m : Nat) (hm : m < 18446744073709551616) (w : World) (hB : Boxed w Bx 66 (.int .u64 (m : Int))) :
    SeqOf Fence.wide n Try.prog 80 #[.pointer (some ⟨Bx, 0, none⟩)] (fun x : UInt8 => #[.int .u8 (x.toNat : Int)]) (fun W W' => W'.heap[Bx]? = W.heap[Bx]?) (fun pre x => pre ++ [x] <+: Nm.rd 20 m)
      (fun _ _ A B => B = A ∨ ∃ v, B = A.setCell ⟨Bx, 0, none⟩ v) (fun A B => A = B) (fun ys => ys = Nm.rd 20 m) (fun pre => pre <+: Nm.rd 20 m) w :=
  fun l J J1 Jx W hW hst _ hY h0 => digits1_in n l Bx m hm J J1 Jx hst hY W ((hW.block Bx hB.lt).trans hB) h0

theorem info8 : (Try.prog.info? 5).map (fun i => (i.zero, i.size, i.bytes)) = some (some (.int .u8 0), 1, 1) := by kernel_rfl

/-- what holds between two rounds: the digits that have come are the bytes of b -/
def PrI (n₀ Bo Bx : Nat) (w0 : World) (pre : List UInt8) (W : World) : Prop :=
  (∃ v, Boxed W Bo 67 v ∧ W.ownsRow n₀ 5 1 v pre.length (pre.map encB)) ∧ (∃ u, Boxed W Bx 66 u) ∧ Below n₀ w0 W

theorem PrI.own {n₀ Bo Bx B : Nat} {w0 : World} (h0 : n₀ ≤ w0.heap.size) (hB : n₀ ≤ B) : OwnFrom B (PrI n₀ Bo Bx w0) := by
  refine OwnFrom.and ?_ (OwnFrom.and ?_ (ownFrom_below h0 hB))
  · have h := Own.from (holdsRow_own n₀ Bo 67 5 1 (fun pre : List UInt8 => pre.length) (fun pre => pre.map encB) (fun _ _ => True)) B
    intro s W W' row ⟨v, h1, h2⟩ hg hr
    obtain ⟨v, h1, h2, _⟩ := h s W W' row ⟨v, h1, h2, trivial⟩ hg hr
    exact ⟨v, h1, h2⟩
  · rintro s W W' row ⟨u, hu⟩ hg hr
    refine ⟨u, hu.kept hg (fun e => ?_)⟩
    obtain ⟨_, o, ho, hc⟩ := hr _ e.symm
    rw [show W.heap[Bx]? = _ from hu] at ho; cases ho; cases hc

theorem PrI.step {n₀ Bo Bx : Nat} {w0 A B : World} {pre : List UInt8} (hx : n₀ ≤ Bx) (hne : Bo ≠ Bx) (h : PrI n₀ Bo Bx w0 pre A) (hs : B = A ∨ ∃ v, B = A.setCell ⟨Bx, 0, none⟩ v) : PrI n₀ Bo Bx w0 pre B := by
  rcases hs with rfl | ⟨u, rfl⟩
  · exact h
  · obtain ⟨⟨v, h1, h2⟩, ⟨u', h3⟩, h4⟩ := h
    exact ⟨⟨v, h1.other hne u, h2.kept (grownBy_setCell' A Bx u) (.inr (h3.not_row (by decide) h2).symm)⟩, ⟨u, h3.set u⟩, h4.setCell (p := ⟨Bx, 0, none⟩) hx u⟩

/-- a block of cells that a slice owns is no block of deferred calls -/
theorem rowne {W : World} {base size k D : Nat} {e : TypeId} {v : Value} {xs : List Value} {o : Obj} (hr : W.ownsRow base e size v k xs) (hD : W.heap[D]? = some o) (ho : o.isCells = false := by rfl) : some D ≠ v.ownBlock := by
  rcases hr.2 with ⟨rfl, _⟩ | ⟨g, cap, cur, rfl, _, hgb, _⟩
  · simp [Value.ownBlock]
  · intro e'
    obtain rfl : D = g := by simpa [Value.ownBlock] using e'
    rw [hgb] at hD; cases hD; cases ho

theorem keepsNo_box {Bx B : Nat} {A A' : World} (h : A' = A ∨ ∃ v, A' = A.setCell ⟨Bx, 0, none⟩ v) : KeepsNo B A A' := by
  rcases h with rfl | ⟨v, rfl⟩
  · exact fun _ _ _ h _ => h
  · exact fun k o _ hk ho => (KeepsOthers.setCell A _ v).same k o hk ho

theorem Boxed.far {W w1 : World} {Bx B : Nat} {t : TypeId} {u v' : Value} {o : Obj} {row : Option Nat} (hu : Boxed W Bx t u) (hgrow : (W.alloc o).grownBy w1 row) (hne : some Bx ≠ row) (hB : Bx ≠ B) :
    Boxed (w1.setCell ⟨B, 0, none⟩ v') Bx t u := ((hu.alloc o).kept hgrow hne).other hB v'

set_option maxRecDepth 100000 in
set_option maxHeartbeats 2000000 in
theorem print_pos (k : Nat) (w : World) (hk : k ≤ 9223372036854775807) :
    CallsIn Fence.wide 6 Try.prog 18 #[.int .i64 (k : Int)] w fun e w' => e = .returned (str (Nm.pr (k : Int))) ∧ Below w.heap.size w w' := by
  obtain ⟨i0, hi, hz0, hz1, hz2⟩ := info_parts info8
  refine callsIn_of_wp_marks Try.func18 rfl trivial ?_ rfl
  simp only [Try.ntmps18, List.size_toArray, List.length_cons, List.length_nil, Nat.reduceAdd, Nat.reduceSub, Array.replicate_succ, Array.replicate_zero, List.push_toArray, List.append_toArray, List.nil_append, List.cons_append]
  have hk0 : decide ((k : Int) < 0) = false := by simp
  gi_wp2_with (refine ⟨trivial, ?_⟩; gi_at_call 41; refine (callsIn_wide.2 (digits_any _ _)).mono ?_; rintro e w' ⟨rfl, rfl⟩)
  have bO := Boxed.new w 67 (.slice none 0 0)
  have bN := Boxed.new (w.alloc (.cells #[.slice none 0 0] 67)) 66 (.int .u64 (k : Int))
  rw [World.size_alloc] at bN
  have hB0 : Below w.heap.size w ((w.alloc (.cells #[.slice none 0 0] 67)).alloc (.cells #[.int .u64 (k : Int)] 66)) := ((Below.refl _ w).alloc (Nat.le_refl _) _).alloc (by simp) _
  have hI0 : PrI w.heap.size w.heap.size (w.heap.size + 1) w [] ((w.alloc (.cells #[.slice none 0 0] 67)).alloc (.cells #[.int .u64 (k : Int)] 66)) :=
    ⟨⟨_, bO.alloc _, World.ownsRow_nil _ _ _ _⟩, ⟨_, bN⟩, hB0⟩
  refine wpIn_rangeFunc_of rfl (by omega) (gf := 80) (lb := #[.pointer (some ⟨w.heap.size + 1, 0, none⟩)]) rfl trivial (enters_of Try.func80 (by kernel_rfl) rfl)
    (digits_seq 5 (w.heap.size + 1) k (by omega) _ bN) (fun pre x A B hs => keepsNo_box hs) (fun A B hs => by subst hs; exact fun _ _ _ h _ => h) (fun h1 h2 => h2.trans h1)
    (fun W l o o' hl _ _ _ => World.putObj_heap_other (by simp at hl; omega)) (Below.refl _ _) (fun _ => rfl)
    (PrI w.heap.size w.heap.size (w.heap.size + 1) w) (fun pre _ => PrI w.heap.size w.heap.size (w.heap.size + 1) w pre) (fun _ _ _ => False)
    (PrI.own (Nat.le_refl _) (by simp; omega)) (fun _ => PrI.own (Nat.le_refl _) (by simp; omega)) (fun _ _ _ _ _ hs _ _ => hs)
    (fun pre x A B h _ hs => h.step (by omega) (by omega) hs) (fun pre A B h hs => by cases hs; exact h) hI0
    (fun x => { tmps := #[.int .i64 (k : Int), undef, .string ⟨#[]⟩, .int .u64 (k : Int), .pointer (some ⟨w.heap.size, 0, none⟩), .int .u8 (x.toNat : Int), .int .i64 (k : Int), .int .u64 (k : Int), .int .i64 (k : Int), .bool false, undef, undef, .int .u64 (k : Int),
      .func (.func 80) #[] #[.pointer (some ⟨w.heap.size + 1, 0, none⟩)], .int .u8 (x.toNat : Int), undef, undef, undef, undef, undef, undef, undef, undef, undef, undef, undef, undef, undef], defers := [] }) ?assign ?body ?done ?stop
  case assign =>
    intro l x W K hK
    gi_wp2
    exact hK
  case body =>
    rintro l pre x W ⟨⟨v, hv, hrow⟩, ⟨u, hu⟩, hB⟩ hok
    have hc := hv.cell
    have hpl : pre.length < 20 := by
      have h1 := hok.length_le
      have h2 := Nm.rd_len 20 k
      simp at h1; omega
    gi_wp2_with (gi_at_builtin; refine wpListIn_append_own _ rfl _ _ 67 rfl w.heap.size 5 i0 (.int .u8 0) 1 1 Try.underlying67 hi hz0 hz1 hz2 rfl (by decide) _ _ _ rfl (hrow.alloc _) ⟨W.heap.size, 0, none⟩ 1 1 [.int .u8 (x.toNat : Int)] rfl rfl (cell_one_new _ _ _) (by simp [Value.oneCell']) (by unfold maxLen; omega) (by omega) (by have := hB.size; simp; omega) ?_; intro v' w1 hown' hgrow _; obtain ⟨g', cap', rfl⟩ := ownsRow_succ hown'; obtain ⟨hv1, hv2, hr2, hk2, hb2⟩ := hv.appended (by decide) hrow hB.size (Nat.le_refl _) hown' hgrow; have hc1 := hv1.cell; have hf1 := hv1.frozen)
    have hu' := Boxed.far hu hgrow (hu.not_row (by decide) hrow) (B := w.heap.size) (v' := .slice (some ⟨g', 0, none⟩) (pre.length + 1) cap') (by omega)
    exact ⟨hk2.from _, Eq.trans hu' hu.symm, ⟨⟨_, hv2, by simpa [encB] using hr2⟩, ⟨u, hu'⟩, hB.trans hb2⟩⟩
  case done =>
    rintro D ys W hD rfl ⟨⟨v, hv, hrow⟩, _, hB⟩ hK
    have hc := hv.cell
    have hl : 0 < (Nm.rd 20 k).length := List.length_pos_iff.2 (Nm.rd_ne 19 k)
    gi_wp2_with (refine ⟨trivial, ?_⟩; gi_at_call 42; refine (callsIn_wide.2 (reverse_own _ _ _ _ hrow hl)).mono ?_; rintro e w1 ⟨rfl, hrow1, hg1⟩; have hc1 := (hv.kept hg1 (hv.not_row (by decide) hrow)).cell; have hcv := run_string_own w1 w.heap.size 5 67 9 Try.underlying67 Try.underlying5 Try.underlying9 v (Nm.rd 20 k).reverse (by simpa using hrow1))
    have hK1 := (hg1.block D (Array.getElem?_eq_some_iff.1 hK).1 (rowne hrow hK)).trans hK
    have hp : Nm.pr (k : Int) = (Nm.rd 20 k).reverse := by unfold Nm.pr; rw [if_neg (by omega)]; simp
    rw [hp]
    refine ⟨by simp, .inl ⟨_, _, rfl, run_takeDeferred hK1, ?_⟩⟩
    have hB1 : Below w.heap.size w w1 := hB.grown hg1 hB.size (fun j e => (hrow.lt j e).1)
    exact ⟨_, results_tmp rfl _ _ _, rfl, hB1.trans (belowK_b (w := w) (Nat.le_refl _) w1 D _ _ (by simp at hD; omega) hK1 rfl rfl)⟩
  case stop =>
    rintro D c pre W _ _ h _
    exact h.elim

set_option maxRecDepth 100000 in
set_option maxHeartbeats 2000000 in
theorem print_neg (k : Nat) (w : World) (h1 : 1 ≤ k) (hk : k ≤ 9223372036854775808) :
    CallsIn Fence.wide 6 Try.prog 18 #[.int .i64 (-(k : Int))] w fun e w' => e = .returned (str (Nm.pr (-(k : Int)))) ∧ Below w.heap.size w w' := by
  obtain ⟨i0, hi, hz0, hz1, hz2⟩ := info_parts info8
  refine callsIn_of_wp_marks Try.func18 rfl trivial ?_ rfl
  simp only [Try.ntmps18, List.size_toArray, List.length_cons, List.length_nil, Nat.reduceAdd, Nat.reduceSub, Array.replicate_succ, Array.replicate_zero, List.push_toArray, List.append_toArray, List.nil_append, List.cons_append]
  have hk0 : decide (-(k : Int) < 0) = true := by simp; omega
  gi_wp2_with (refine ⟨trivial, ?_⟩; gi_at_call 41; refine (callsIn_wide.2 (digits_any _ _)).mono ?_; rintro e w' ⟨rfl, rfl⟩)
  have hw : IntKind.u64.wrap (-IntKind.u64.wrap (-(k : Int))) = k := by simp only [IntKind.wrap_u64]; omega
  rw [hw]
  clear hw
  have bO := Boxed.new w 67 (.slice none 0 0)
  have bN := Boxed.new (w.alloc (.cells #[.slice none 0 0] 67)) 66 (.int .u64 (k : Int))
  rw [World.size_alloc] at bN
  have hB0 : Below w.heap.size w ((w.alloc (.cells #[.slice none 0 0] 67)).alloc (.cells #[.int .u64 (k : Int)] 66)) := ((Below.refl _ w).alloc (Nat.le_refl _) _).alloc (by simp) _
  have hI0 : PrI w.heap.size w.heap.size (w.heap.size + 1) w [] ((w.alloc (.cells #[.slice none 0 0] 67)).alloc (.cells #[.int .u64 (k : Int)] 66)) :=
    ⟨⟨_, bO.alloc _, World.ownsRow_nil _ _ _ _⟩, ⟨_, bN⟩, hB0⟩
  refine wpIn_rangeFunc_of rfl (by omega) (gf := 80) (lb := #[.pointer (some ⟨w.heap.size + 1, 0, none⟩)]) rfl trivial (enters_of Try.func80 (by kernel_rfl) rfl)
    (digits_seq 5 (w.heap.size + 1) k (by omega) _ bN) (fun pre x A B hs => keepsNo_box hs) (fun A B hs => by subst hs; exact fun _ _ _ h _ => h) (fun h1 h2 => h2.trans h1)
    (fun W l o o' hl _ _ _ => World.putObj_heap_other (by simp at hl; omega)) (Below.refl _ _) (fun _ => rfl)
    (PrI w.heap.size w.heap.size (w.heap.size + 1) w) (fun pre _ => PrI w.heap.size w.heap.size (w.heap.size + 1) w pre) (fun _ _ _ => False)
    (PrI.own (Nat.le_refl _) (by simp; omega)) (fun _ => PrI.own (Nat.le_refl _) (by simp; omega)) (fun _ _ _ _ _ hs _ _ => hs)
    (fun pre x A B h _ hs => h.step (by omega) (by omega) hs) (fun pre A B h hs => by cases hs; exact h) hI0
    (fun x => { tmps := #[.int .i64 (-(k : Int)), undef, .string ⟨#[]⟩, .int .u64 (k : Int), .pointer (some ⟨w.heap.size, 0, none⟩), .int .u8 (x.toNat : Int), .int .i64 (-(k : Int)), .int .u64 (IntKind.u64.wrap (-(k : Int))), .int .i64 (-(k : Int)), .bool true, .int .u64 (IntKind.u64.wrap (-(k : Int))), .int .u64 (k : Int), .int .u64 (k : Int),
      .func (.func 80) #[] #[.pointer (some ⟨w.heap.size + 1, 0, none⟩)], .int .u8 (x.toNat : Int), undef, undef, undef, undef, undef, undef, undef, undef, undef, undef, undef, undef, undef], defers := [] }) ?assign ?body ?done ?stop
  case assign =>
    intro l x W K hK
    gi_wp2
    exact hK
  case body =>
    rintro l pre x W ⟨⟨v, hv, hrow⟩, ⟨u, hu⟩, hB⟩ hok
    have hc := hv.cell
    have hpl : pre.length < 20 := by
      have h1 := hok.length_le
      have h2 := Nm.rd_len 20 k
      simp at h1; omega
    gi_wp2_with (gi_at_builtin; refine wpListIn_append_own _ rfl _ _ 67 rfl w.heap.size 5 i0 (.int .u8 0) 1 1 Try.underlying67 hi hz0 hz1 hz2 rfl (by decide) _ _ _ rfl (hrow.alloc _) ⟨W.heap.size, 0, none⟩ 1 1 [.int .u8 (x.toNat : Int)] rfl rfl (cell_one_new _ _ _) (by simp [Value.oneCell']) (by unfold maxLen; omega) (by omega) (by have := hB.size; simp; omega) ?_; intro v' w1 hown' hgrow _; obtain ⟨g', cap', rfl⟩ := ownsRow_succ hown'; obtain ⟨hv1, hv2, hr2, hk2, hb2⟩ := hv.appended (by decide) hrow hB.size (Nat.le_refl _) hown' hgrow; have hc1 := hv1.cell; have hf1 := hv1.frozen)
    have hu' := Boxed.far hu hgrow (hu.not_row (by decide) hrow) (B := w.heap.size) (v' := .slice (some ⟨g', 0, none⟩) (pre.length + 1) cap') (by omega)
    exact ⟨hk2.from _, Eq.trans hu' hu.symm, ⟨⟨_, hv2, by simpa [encB] using hr2⟩, ⟨u, hu'⟩, hB.trans hb2⟩⟩
  case done =>
    rintro D ys W hD rfl ⟨⟨v, hv, hrow⟩, _, hB⟩ hK
    have hc := hv.cell
    have hl20 := Nm.rd_len 20 k
    have hl : 0 < (Nm.rd 20 k ++ [45]).length := by simp
    gi_wp2_with (first
      | (gi_at_builtin; refine wpListIn_append_own _ rfl _ _ 67 rfl w.heap.size 5 i0 (.int .u8 0) 1 1 Try.underlying67 hi hz0 hz1 hz2 rfl (by decide) _ _ _ rfl (hrow.alloc _) ⟨W.heap.size, 0, none⟩ 1 1 [.int .u8 45] rfl rfl (cell_one_new _ _ _) (by simp [Value.oneCell']) (by unfold maxLen; omega) (by omega) (by have := hB.size; simp; omega) ?_; intro v' w1 hown' hgrow _; obtain ⟨g', cap', rfl⟩ := ownsRow_succ hown'; obtain ⟨hv1, hv2, hr2, hk2, hb2⟩ := hv.appended (by decide) hrow hB.size (Nat.le_refl _) hown' hgrow; have hc1 := hv1.cell; have hf1 := hv1.frozen; have hrA : (w1.setCell ⟨w.heap.size, 0, none⟩ (Value.slice (some ⟨g', 0, none⟩) ((Nm.rd 20 k).length + 1) cap')).ownsRow w.heap.size 5 1 (Value.slice (some ⟨g', 0, none⟩) ((Nm.rd 20 k).length + 1) cap') (Nm.rd 20 k ++ [45]).length ((Nm.rd 20 k ++ [45]).map encB) := (by simpa [encB] using hr2))
      | (refine ⟨trivial, ?_⟩; gi_at_call 42; refine (callsIn_wide.2 (reverse_own _ _ _ _ hrA hl)).mono ?_; rintro e w2 ⟨rfl, hrow1, hg1⟩; have hc2 := (hv2.kept hg1 (hv2.not_row (by decide) hrA)).cell; have hcv := run_string_own w2 w.heap.size 5 67 9 Try.underlying67 Try.underlying5 Try.underlying9 _ (Nm.rd 20 k ++ [45]).reverse (by simpa using hrow1)))
    have hK1 := hk2.same D _ hK rfl
    have hK2 := (hg1.block D (Array.getElem?_eq_some_iff.1 hK1).1 (rowne hrA hK1)).trans hK1
    have hp : Nm.pr (-(k : Int)) = 45 :: (Nm.rd 20 k).reverse := by
      unfold Nm.pr; rw [if_pos (by omega), show (-(k : Int)).natAbs = k from by omega]; simp
    rw [hp]
    refine ⟨by simp, .inl ⟨_, _, rfl, run_takeDeferred hK2, ?_⟩⟩
    have hB1 : Below w.heap.size w _ := (hB.trans hb2).grown hg1 (hB.trans hb2).size (fun j e => (hrA.lt j e).1)
    exact ⟨_, results_tmp rfl _ _ _, rfl, hB1.trans (belowK_b (w := w) (Nat.le_refl _) _ D _ _ (by simp at hD; omega) hK2 rfl rfl)⟩
  case stop =>
    rintro D c pre W _ _ h _
    exact h.elim

/-- num.Print: a number's digits -/
theorem print_any (n : Int) (w : World) (h1 : -9223372036854775808 ≤ n) (h2 : n ≤ 9223372036854775807) :
    Calls Try.prog 18 #[.int .i64 n] w fun e w' => e = .returned (str (Nm.pr n)) ∧ Below w.heap.size w w' := by
  rcases Int.lt_or_le n 0 with h | h
  · obtain ⟨k, rfl⟩ : ∃ k : Nat, n = -(k : Int) := ⟨n.natAbs, by omega⟩
    exact callsIn_wide.1 (print_neg k w (by omega) (by omega))
  · obtain ⟨k, rfl⟩ := Int.eq_ofNat_of_zero_le h
    exact callsIn_wide.1 (print_pos k w (by omega))

end Go.Proofs.Ythbpkmmnoeikoaa

/-
  The program's utf.Codes, Count, Valid: is a text codes' bytes? Condition: the text is shorter than 2^32 bytes.
-/
namespace Go.Proofs.Ythbpkmmnoeikoaa
open Go.RowKit Go.Shelf
attribute [local go_sem] Oper.semAt_some
set_option linter.unusedVariables false
set_option linter.unusedSimpArgs false

/-- a text's codes, each with the place behind it -/
def cods : Nat → List UInt8 → Nat → List (Nat × Nat)
  | 0, _, _ => []
  | n + 1, l, i => match Uf.get l with | none => [] | some p => (i + p.2, p.1) :: cods n (l.drop p.2) (i + p.2)
theorem cods_none {l : List UInt8} (n i : Nat) (h : Uf.get l = none) : cods (n + 1) l i = [] := by rw [cods, h]
theorem cods_some {l : List UInt8} {p : Nat × Nat} (n i : Nat) (h : Uf.get l = some p) : cods (n + 1) l i = (i + p.2, p.1) :: cods n (l.drop p.2) (i + p.2) := by rw [cods, h]
/-- where the codes end -/
def cend (T : List (Nat × Nat)) : Nat := (T.getLast?.map (·.1)).getD 0
def valid (l : List UInt8) : Bool := decide (cend (cods (l.length + 1) l 0) = l.length)

theorem get_len {l : List UInt8} {p : Nat × Nat} (h : Uf.get l = some p) : 1 ≤ p.2 ∧ p.2 ≤ 4 ∧ p.2 ≤ l.length ∧ p.1 ≤ 1114111 := by
  cases l with
  | nil => cases h
  | cons b r =>
    have hb := first_bounds b
    unfold Uf.get at h
    dsimp only at h
    split at h
    · cases h
    · rename_i hn
      split at h
      · rename_i hc
        simp only [Option.some.injEq] at h
        subst h
        have hcc := hc.2.2
        unfold Uf.code at hcc
        simp at hcc
        refine ⟨by dsimp only; omega, hb.1, by simp only [List.length_cons]; omega, by dsimp only; omega⟩
      · cases h

theorem all_any (s : ByteArray) (w : World) :
    Calls Try.prog 112 #[.string s] w fun e w' => e = .returned (.func (.func 117) #[] #[.pointer (some ⟨w.heap.size, 0, none⟩)]) ∧ w' = w.alloc (.cells #[.string s] 9) := by
  go_enter Try.func112, Try.ntmps112
  go_wp2
  go_ret
  exact ⟨rfl, rfl⟩

/-- blocks of bytes lie as they lay -/
def KpB (W W' : World) : Prop := ∀ (b : Nat) (c : Array Value) (f : Nat × Nat), W.heap[b]? = some (.cells c 5 f) → W'.heap[b]? = some (.cells c 5 f)
theorem KpB.trans {A B C : World} (h : KpB A B) (k : KpB B C) : KpB A C := fun b c f hb => k b c f (h b c f hb)

/-- at a round's head -/
def CoR (T : List (Nat × Nat)) (s : ByteArray) (B0 : Nat) (o0 : Obj) (J : List (Nat × Nat) → World → Prop) (v : Value) (wr : World) : Prop :=
  ∃ (pre : List (Nat × Nat)) (n i : Nat) (A : World), T = pre ++ cods (n + 1) (s.data.toList.drop i) i ∧ s.size - i < n + 1 ∧ i ≤ s.size ∧ v = .int .i64 (i : Int) ∧ J pre A ∧ Below A.heap.size A wr ∧ wr.heap[B0]? = some o0

theorem bytes_block {w W : World} {xs : List UInt8} {B0 : Nat} {p : Option Addr} {k c : Nat} (h : BytesV w (.slice p k c) xs) (hp : p = some ⟨B0, 0, none⟩) (hk : W.heap[B0]? = w.heap[B0]?) : BytesV W (.slice p k c) xs := by
  subst hp
  obtain ⟨p', cap, e, h1, h2, hc⟩ := h
  refine ⟨p', cap, e, h1, h2, fun j hj => ?_⟩
  obtain ⟨b, o, q1, q2⟩ := hc j hj
  cases e; cases q1
  exact ⟨B0, 0, rfl, (World.cell?_of_block (show W.heap[(⟨B0, 0 + j, none⟩ : Addr).block]? = w.heap[(⟨B0, 0 + j, none⟩ : Addr).block]? from hk)).trans q2⟩

set_option maxRecDepth 100000 in
set_option maxHeartbeats 2000000 in
theorem all1_in (n l Bx : Nat) (s : ByteArray) (hs : s.size ≤ 4294967280) (T : List (Nat × Nat)) (hT : T = cods (s.size + 1) s.data.toList 0) (J : List (Nat × Nat) → World → Prop) (J1 : List (Nat × Nat) → (Nat × Nat) → World → Prop) (Jx : List (Nat × Nat) → World → Prop)
    (hstep : ∀ pre x A B, J pre A → pre ++ [x] <+: T → Below A.heap.size A B → J1 pre x B)
    (hend : ∀ pre A B, J pre A → Below A.heap.size A B → J pre B)
    (hY : ∀ pre x W1, J1 pre x W1 → pre ++ [x] <+: T → YieldAt Fence.wide (n - 1) Try.prog l #[.int .i64 (x.1 : Int), .int .i64 (x.2 : Int)] W1 fun e W' =>
      (e = .returned (.bool true) ∧ J (pre ++ [x]) W' ∧ KpB W1 W') ∨ (e = .returned (.bool false) ∧ Jx (pre ++ [x]) W'))
    (W : World) (hB : Boxed W Bx 9 (.string s)) (h0 : J [] W) :
    CallsIn Fence.wide n Try.prog 117 #[.func (.yield l) #[] #[], .pointer (some ⟨Bx, 0, none⟩)] W fun e W' => (∃ v, e = .returned v) ∧
      ((∃ ys, ys = T ∧ J ys W') ∨ (∃ pre, pre <+: T ∧ Jx pre W')) := by
  have hcv := cv_run s
  have hbv := cv_bytes s W (by unfold maxLen; omega)
  have hbl0 := cv_below s W
  have hblk : (W.drew.alloc (cvBlk s W)).heap[W.heap.size]? = some (cvBlk s W) := heap_alloc_new W.drew (cvBlk s W)
  have hc := hB.cell
  refine callsIn_of_wp Try.func117 rfl trivial ?_ rfl
  simp only [Try.ntmps117, List.size_toArray, List.length_cons, List.length_nil, Nat.reduceAdd, Nat.reduceSub, Array.replicate_succ, Array.replicate_zero, List.push_toArray, List.append_toArray, List.nil_append, List.cons_append]
  gi_wp2
  gi_loopw [4] (CoR T s W.heap.size (cvBlk s W) J) (fun v wr => s.size - (intOf v).toNat)
  case atStart =>
    exact ⟨[], s.size, 0, W, hT, by omega, by omega, rfl, h0, hbl0, hblk⟩
  case round =>
    obtain ⟨pre, m, i, A, hx, hm, hi, rfl, hJ, hbl, hb⟩ := hrel
    have hbw : BytesV wr (.slice (some ⟨W.heap.size, 0, none⟩) s.size (cvCap s W)) s.data.toList := bytes_block hbv rfl (hb.trans hblk.symm)
    have hJ1 := hend pre A wr hJ hbl
    by_cases hlt : i < s.size
    · have hga := get_any _ s.data.toList i wr hbw (by rw [len_data]; omega) (by rw [len_data]; omega)
      have tl : decide ((i : Int) < (s.size : Int)) = true := decide_eq_true (by omega)
      cases hg : Uf.get (s.data.toList.drop i) with
      | none =>
        rw [hg] at hga
        rw [cods_none m i hg, List.append_nil] at hx
        have HX := Lib.hid hx
        clear hx hg
        unfold getV at hga
        gi_wp2_with (refine ⟨trivial, fun h => (by cases h), ?_⟩; refine (callsIn_wide.2 hga).mono ?_; rintro e w1 ⟨rfl, rfl⟩)
        refine ⟨fun _ h => (by cases h), ?_⟩
        gi_wp2
        refine bodyPost_ret (results_none rfl _ _ _) rfl ?_
        exact ⟨⟨_, rfl⟩, .inl ⟨_, HX.out.symm, hJ1⟩⟩
      | some p =>
        rw [hg] at hga
        obtain ⟨g1, g2, g3, g4⟩ := get_len hg
        rw [List.length_drop, len_data] at g3
        rw [cods_some m i hg, List.drop_drop] at hx
        unfold getV at hga
        have hpre : pre ++ [(i + p.2, p.1)] <+: T := by rw [hx]; exact ⟨_, by simp; rfl⟩
        obtain ⟨fn, tmps, assign, body, hy, hR⟩ := hY pre (i + p.2, p.1) wr (hstep pre _ A wr hJ hpre hbl) hpre
        have HX := Lib.hid hx
        dsimp only at hy
        have hpl : ((i + p.2 : Nat) : Int) = (i : Int) + (p.2 : Int) := by omega
        rw [hpl] at hy
        clear hx hg
        gi_wp2_with (refine ⟨trivial, fun h => (by cases h), ?_⟩; refine (callsIn_wide.2 hga).mono ?_; rintro e w1 ⟨rfl, rfl⟩)
        refine ⟨fun h => (by cases h), ?_⟩
        refine hR.mono ?_
        rintro e W3 (⟨rfl, hJ3, hk3⟩ | ⟨rfl, hJx3⟩)
        · have hb3 := hk3 _ _ _ hb
          gi_wp2
          go_roundw
          case rel =>
            refine ⟨pre ++ [(i + p.2, p.1)], m - 1, i + p.2, W3, ?_, by omega, by omega, by simp, hJ3, Below.refl _ _, hb3⟩
            rw [Nat.sub_add_cancel (by omega), HX.out]; simp
          case measure => simp [intOf]; omega
        · gi_wp2
          refine bodyPost_ret (results_none rfl _ _ _) rfl ?_
          exact ⟨⟨_, rfl⟩, .inr ⟨_, hpre, hJx3⟩⟩
    · have tl : decide ((i : Int) < (s.size : Int)) = false := decide_eq_false (by omega)
      have hd : s.data.toList.drop i = [] := List.drop_eq_nil_of_le (by rw [len_data]; omega)
      rw [hd, cods_none m i rfl, List.append_nil] at hx
      have HX := Lib.hid hx
      clear hx hd
      gi_wp2
      go_end0
      exact ⟨⟨_, rfl⟩, .inl ⟨_, HX.out.symm, hJ1⟩⟩

theorem all_seq (n Bx : Nat) (s : ByteArray) (hs : s.size ≤ 4294967280) (w : World) (hB : Boxed w Bx 9 (.string s)) :
    SeqOf Fence.wide n Try.prog 117 #[.pointer (some ⟨Bx, 0, none⟩)] (fun x : Nat × Nat => #[.int .i64 (x.1 : Int), .int .i64 (x.2 : Int)]) KpB (fun pre x => pre ++ [x] <+: cods (s.size + 1) s.data.toList 0)
      (fun _ _ A B => Below A.heap.size A B) (fun A B => Below A.heap.size A B) (fun ys => ys = cods (s.size + 1) s.data.toList 0) (fun pre => pre <+: cods (s.size + 1) s.data.toList 0) w :=
  fun l J J1 Jx W hW hst hen hY h0 => all1_in n l Bx s hs _ rfl J J1 Jx hst hen hY W ((hW.block Bx hB.lt).trans hB) h0

theorem infoI : (Try.prog.info? 3).map (fun i => (i.zero, i.size, i.bytes)) = some (some (.int .i64 0), 1, 8) := by kernel_rfl
def encI (x : Nat × Nat) : Value := .int .i64 (x.2 : Int)
def CoI (n₀ nb Bo Be : Nat) (w0 : World) (pre : List (Nat × Nat)) (W : World) : Prop :=
  (∃ v, Boxed W Bo 117 v ∧ W.ownsRow nb 3 1 v pre.length (pre.map encI)) ∧ Boxed W Be 3 (.int .i64 (cend pre : Int)) ∧ Below n₀ w0 W ∧ nb ≤ W.heap.size

theorem CoI.own {n₀ nb Bo Be B : Nat} {w0 : World} (h0 : n₀ ≤ w0.heap.size) (hB : n₀ ≤ B) : OwnFrom B (CoI n₀ nb Bo Be w0) := by
  refine OwnFrom.and ?_ (OwnFrom.and ?_ (OwnFrom.and (ownFrom_below h0 hB) ?_))
  · have h := Own.from (holdsRow_own nb Bo 117 3 1 (fun pre : List (Nat × Nat) => pre.length) (fun pre => pre.map encI) (fun _ _ => True)) B
    intro s W W' row ⟨v, h1, h2⟩ hg hr
    obtain ⟨v, h1, h2, _⟩ := h s W W' row ⟨v, h1, h2, trivial⟩ hg hr
    exact ⟨v, h1, h2⟩
  · rintro s W W' row hu hg hr
    refine hu.kept hg (fun e => ?_)
    obtain ⟨_, o, ho, hc⟩ := hr _ e.symm
    rw [show W.heap[Be]? = _ from hu] at ho; cases ho; cases hc
  · exact fun s W W' row hs hg _ => Nat.le_trans hs hg.size
theorem CoI.step {n₀ nb Bo Be : Nat} {w0 A B : World} {pre : List (Nat × Nat)} (h : CoI n₀ nb Bo Be w0 pre A) (hs : Below A.heap.size A B) (hn : n₀ ≤ A.heap.size) : CoI n₀ nb Bo Be w0 pre B := by
  obtain ⟨⟨v, h1, h2⟩, h3, h4, h5⟩ := h
  refine ⟨⟨v, (hs.block Bo h1.lt).trans h1, h2.kept (row := none) ⟨hs.os, hs.tape, hs.output, hs.size, fun k hk _ => hs.block k hk⟩ ?_⟩, (hs.block Be h3.lt).trans h3, h4.trans (hs.mono hn), Nat.le_trans h5 hs.size⟩
  cases hv : v.ownBlock
  · exact .inl rfl
  · exact .inr (by simp)
theorem own_ne {W : World} {nb k Be : Nat} {e : TypeId} {v : Value} {xs : List Value} (h : W.ownsRow nb e 1 v k xs) (hlt : Be < nb) : some Be ≠ v.ownBlock := by
  intro e'
  have := (h.lt _ e'.symm).1
  omega
theorem keepsNo_below {B : Nat} {A A' : World} (h : Below A.heap.size A A') : KeepsNo B A A' := fun k o _ hk _ => (h.block k (Array.getElem?_eq_some_iff.1 hk).1).trans hk
theorem KpB.alloc (W : World) (o : Obj) : KpB W (W.alloc o) := fun b c f hb => (Below.heap_alloc W o b (Array.getElem?_eq_some_iff.1 hb).1).trans hb
theorem KpB.grow {N n : Nat} {W W' : World} {v : Value} {xs : List Value} {e : TypeId} (he : e ≠ 5) (h : W.ownsRow N e 1 v n xs) (hg : W.grownBy W' v.ownBlock) : KpB W W' := fun b c f hb => by
  refine (hg.block b (Array.getElem?_eq_some_iff.1 hb).1 (fun e' => ?_)).trans hb
  rcases h.2 with ⟨rfl, _⟩ | ⟨g, cap, cur, rfl, _, hblk, _⟩
  · simp [Value.ownBlock] at e'
  · simp only [Value.ownBlock, Option.some.injEq] at e'
    subst e'
    rw [hb] at hblk
    simp only [Option.some.injEq, Obj.cells.injEq] at hblk
    exact he hblk.2.1.symm
theorem KpB.set {W : World} {B : Nat} {t : TypeId} {v u : Value} (hb : Boxed W B t v) (ht : t ≠ 5) : KpB W (W.setCell ⟨B, 0, none⟩ u) := fun b c f hc => by
  refine ((grownBy_setCell' W B u).block b (Array.getElem?_eq_some_iff.1 hc).1 (fun e => ?_)).trans hc
  cases e
  rw [show W.heap[B]? = _ from hb] at hc
  simp only [Option.some.injEq, Obj.cells.injEq] at hc
  exact ht hc.2.1
theorem KpB.put {w : World} (W : World) (l : Nat) (o o' : Obj) (h : W.heap[l]? = some o) (ho : o.isCells = false) : KpB W (W.putObj l o') := fun b c f hc => by
  have hne : l ≠ b := by rintro rfl; rw [h] at hc; cases hc; cases ho
  exact (World.putObj_heap_other (by omega)).trans hc
theorem cend_snoc (pre : List (Nat × Nat)) (x : Nat × Nat) : cend (pre ++ [x]) = x.1 := by unfold cend; simp
theorem co_round {n₀ nb Bo Be : Nat} {w0 W w1 : World} {pre : List (Nat × Nat)} {x : Nat × Nat} {v v' : Value} {tmp : Obj} (hv : Boxed W Bo 117 v) (hrow : W.ownsRow nb 3 1 v pre.length (pre.map encI)) (hu : Boxed W Be 3 (.int .i64 (cend pre : Int)))
    (hbl : Below n₀ w0 W) (hnb : nb ≤ W.heap.size) (hn : n₀ ≤ nb) (hBo : n₀ ≤ Bo) (hBe1 : n₀ ≤ Be) (hBe : Be < nb) (hne : Bo ≠ Be)
    (hown : w1.ownsRow nb 3 1 v' (pre.length + 1) (pre.map encI ++ [.int .i64 (x.2 : Int)])) (hgrow : (W.alloc tmp).grownBy w1 v.ownBlock) :
    Boxed w1 Bo 117 v ∧ Boxed (w1.setCell ⟨Bo, 0, none⟩ v') Be 3 (.int .i64 (cend pre : Int)) ∧
    KeepsOthers W ((w1.setCell ⟨Bo, 0, none⟩ v').setCell ⟨Be, 0, none⟩ (.int .i64 (x.1 : Int))) ∧ KpB W ((w1.setCell ⟨Bo, 0, none⟩ v').setCell ⟨Be, 0, none⟩ (.int .i64 (x.1 : Int))) ∧
    CoI n₀ nb Bo Be w0 (pre ++ [x]) ((w1.setCell ⟨Bo, 0, none⟩ v').setCell ⟨Be, 0, none⟩ (.int .i64 (x.1 : Int))) := by
  have hv1 : Boxed w1 Bo 117 v := (hv.alloc tmp).kept hgrow (hv.not_row (by decide) hrow)
  have hu1 : Boxed w1 Be 3 (.int .i64 (cend pre : Int)) := (hu.alloc tmp).kept hgrow (own_ne hrow hBe)
  have hv2 := hv1.set v'
  have hu2 : Boxed (w1.setCell ⟨Bo, 0, none⟩ v') Be 3 (.int .i64 (cend pre : Int)) := hu1.other (Ne.symm hne) v'
  have hr2 : (w1.setCell ⟨Bo, 0, none⟩ v').ownsRow nb 3 1 v' (pre.length + 1) (pre.map encI ++ [.int .i64 (x.2 : Int)]) := hown.kept (grownBy_setCell' w1 Bo v') (.inr (hv1.not_row (by decide) hown).symm)
  have hr3 := hr2.kept (grownBy_setCell' (w1.setCell ⟨Bo, 0, none⟩ v') Be (.int .i64 (x.1 : Int))) (.inr (own_ne hr2 hBe).symm)
  have hg2 : ∀ j, v.ownBlock = some j → nb ≤ j := fun j e => (hrow.lt j e).1
  refine ⟨hv1, hu2, ?_, ?_, ⟨⟨v', hv2.other hne _, by simpa [encI] using hr3⟩, ?_, ?_, ?_⟩⟩
  · refine (((KeepsOthers.alloc W tmp).trans (KeepsOthers.of_grownBy hgrow fun j o ej hj => ?_)).trans (KeepsOthers.setCell _ _ _)).trans (KeepsOthers.setCell _ _ _)
    rcases (hrow.alloc tmp).2 with ⟨rfl, _⟩ | ⟨g, cap, cur, rfl, _, hgb, _⟩
    · simp [Value.ownBlock] at ej
    · obtain rfl : g = j := by simpa [Value.ownBlock] using ej
      rw [hgb] at hj; cases hj; rfl
  · exact (((KpB.alloc W tmp).trans (KpB.grow (by decide) (hrow.alloc tmp) hgrow)).trans (KpB.set hv1 (by decide))).trans (KpB.set hu2 (by decide))
  · rw [cend_snoc]; exact hu2.set _
  · exact hbl.trans (((((Below.refl n₀ W).alloc (by omega) tmp).grown hgrow (by simp; omega) (fun j ej => by have := hg2 j ej; omega)).setCell (p := ⟨Bo, 0, none⟩) hBo v').setCell (p := ⟨Be, 0, none⟩) hBe1 _)
  · have h1 := hgrow.size
    simp at h1
    simp [World.setCell]; omega
theorem cods_len : ∀ (n : Nat) (l : List UInt8) (i : Nat), (cods n l i).length ≤ l.length
  | 0, _, _ => by simp [cods]
  | n + 1, l, i => by
    cases h : Uf.get l with
    | none => rw [cods_none n i h]; simp
    | some p =>
      have := get_len h
      have ih := cods_len n (l.drop p.2) (i + p.2)
      rw [cods_some n i h, List.length_cons]
      rw [List.length_drop] at ih; omega

set_option maxRecDepth 100000 in
set_option maxHeartbeats 2000000 in
theorem codes_in (s : ByteArray) (w : World) (hs : s.size ≤ 4294967280) :
    CallsIn Fence.wide 6 Try.prog 101 #[.string s] w fun e w' => ∃ p k c, e = .returned (.tuple #[.slice p k c, .int .i64 (cend (cods (s.size + 1) s.data.toList 0) : Int)]) ∧ Below w.heap.size w w' := by
  obtain ⟨i0, hi, hz0, hz1, hz2⟩ := info_parts infoI
  have hlen := cods_len (s.size + 1) s.data.toList 0
  rw [len_data] at hlen
  refine callsIn_of_wp_marks Try.func101 rfl trivial ?_ rfl
  simp only [Try.ntmps101, List.size_toArray, List.length_cons, List.length_nil, Nat.reduceAdd, Nat.reduceSub, Array.replicate_succ, Array.replicate_zero, List.push_toArray, List.append_toArray, List.nil_append, List.cons_append]
  gi_wp2_with (refine ⟨trivial, ?_⟩; gi_at_call 112; refine (callsIn_wide.2 (all_any _ _)).mono ?_; rintro e w' ⟨rfl, rfl⟩)
  have bO := Boxed.new w 117 (.slice none 0 0)
  have bE := Boxed.new (w.alloc (.cells #[.slice none 0 0] 117)) 3 (.int .i64 0)
  rw [World.size_alloc] at bE
  have bS := Boxed.new ((w.alloc (.cells #[.slice none 0 0] 117)).alloc (.cells #[.int .i64 0] 3)) 9 (.string s)
  rw [World.size_alloc, World.size_alloc] at bS
  have hB0 : Below w.heap.size w (((w.alloc (.cells #[.slice none 0 0] 117)).alloc (.cells #[.int .i64 0] 3)).alloc (.cells #[.string s] 9)) := (((Below.refl _ w).alloc (Nat.le_refl _) _).alloc (by simp) _).alloc (by simp; omega) _
  have hI0 : CoI w.heap.size (w.heap.size + 3) w.heap.size (w.heap.size + 1) w [] (((w.alloc (.cells #[.slice none 0 0] 117)).alloc (.cells #[.int .i64 0] 3)).alloc (.cells #[.string s] 9)) := ⟨⟨_, (bO.alloc _).alloc _, World.ownsRow_nil _ _ _ _⟩, bE.alloc _, hB0, by simp⟩
  refine wpIn_rangeFunc_of rfl (by omega) (gf := 117) (lb := #[.pointer (some ⟨w.heap.size + 1 + 1, 0, none⟩)]) rfl trivial (enters_of Try.func117 (by kernel_rfl) rfl)
    (all_seq 5 (w.heap.size + 1 + 1) s hs _ bS) (fun pre x A B hs => keepsNo_below hs) (fun A B hs => keepsNo_below hs) (fun h1 h2 => h1.trans h2)
    (fun W l o o' _ h ho _ => KpB.put (w := w) W l o o' h ho) (Below.refl _ _) (fun _ => rfl)
    (CoI w.heap.size (w.heap.size + 3) w.heap.size (w.heap.size + 1) w) (fun pre _ => CoI w.heap.size (w.heap.size + 3) w.heap.size (w.heap.size + 1) w pre) (fun _ _ _ => False)
    (CoI.own (Nat.le_refl _) (by simp; omega)) (fun _ => CoI.own (Nat.le_refl _) (by simp; omega)) (fun _ _ _ _ _ hs _ _ => hs)
    (fun pre x A B h _ hs => h.step hs h.2.2.1.size) (fun pre A B h hs => h.step hs h.2.2.1.size) hI0
    (fun x => { tmps := #[.string s, undef, .slice none 0 0, .int .i64 0, .pointer (some ⟨w.heap.size, 0, none⟩), .pointer (some ⟨w.heap.size + 1, 0, none⟩), .int .i64 (x.1 : Int), .int .i64 (x.2 : Int), .string s,
      .func (.func 117) #[] #[.pointer (some ⟨w.heap.size + 1 + 1, 0, none⟩)], .int .i64 (x.1 : Int), .int .i64 (x.2 : Int), undef, undef, undef, undef, undef, undef, undef], defers := [] }) ?assign ?body ?done ?stop
  case assign =>
    intro l x W K hK
    gi_wp2
    exact hK
  case body =>
    rintro l pre x W ⟨⟨v, hv, hrow⟩, hu, hB, hnb⟩ hok
    have hc := hv.cell
    have hce := hu.cell
    have hfe := hu.frozen
    have hpl : pre.length < 4294967290 := by
      have h1 := hok.length_le
      simp at h1; omega
    gi_wp2_with (gi_at_builtin; refine wpListIn_append_own _ rfl _ _ 117 rfl (w.heap.size + 3) 3 i0 (.int .i64 0) 1 8 Try.underlying117 hi hz0 hz1 hz2 rfl (by decide) _ _ _ rfl (hrow.alloc _) ⟨W.heap.size, 0, none⟩ 1 1 [.int .i64 (x.2 : Int)] rfl rfl (cell_one_new _ _ _) (by simp [Value.oneCell']) (by unfold maxLen; omega) (by omega) (by simp; omega) ?_; intro v' w1 hown' hgrow _; obtain ⟨g', cap', rfl⟩ := ownsRow_succ hown'; obtain ⟨hv1, hu2, hk, hkb, hI⟩ := co_round hv hrow hu hB hnb (by omega) (Nat.le_refl _) (by omega) (by omega) (by omega) hown' hgrow; have hc1 := hv1.cell; have hf1 := hv1.frozen; have hce2 := hu2.cell; have hfe2 := hu2.frozen)
    exact ⟨hk.from _, hkb, hI⟩
  case done =>
    rintro D ys W hD rfl ⟨⟨v, hv, hrow⟩, hu, hB, hnb⟩ hK
    have hc := hv.cell
    have hce := hu.cell
    obtain ⟨vp, vk, vc, rfl⟩ : ∃ p k c, v = .slice p k c := by
      rcases hrow.2 with ⟨rfl, _⟩ | ⟨g, cap, cur, rfl, _⟩
      · exact ⟨_, _, _, rfl⟩
      · exact ⟨_, _, _, rfl⟩
    gi_wp2
    gi_region
    gi_wp2
    refine ⟨by simp, .inl ⟨_, _, rfl, run_takeDeferred (show W.drew.heap[D]? = _ from hK), ?_⟩⟩
    exact ⟨_, results_tmp2 rfl _ _ _, _, _, _, rfl, hB.drew.trans (belowK_b (w := w) (Nat.le_refl _) W.drew D _ _ (by simp at hD; omega) (show W.drew.heap[D]? = _ from hK) rfl rfl)⟩
  case stop =>
    rintro D c pre W _ _ h _
    exact h.elim

theorem cend_le : ∀ (n : Nat) (l : List UInt8) (i : Nat), ∀ x ∈ cods n l i, x.1 ≤ i + l.length
  | 0, _, _, x, h => by simp [cods] at h
  | n + 1, l, i, x, h => by
    cases hg : Uf.get l with
    | none => rw [cods_none n i hg] at h; simp at h
    | some p =>
      have := get_len hg
      rw [cods_some n i hg, List.mem_cons] at h
      rcases h with rfl | h
      · dsimp only; omega
      · have := cend_le n _ _ x h
        rw [List.length_drop] at this; omega
theorem cend_le2 (l : List UInt8) : cend (cods (l.length + 1) l 0) ≤ l.length := by
  unfold cend
  cases h : (cods (l.length + 1) l 0).getLast? with
  | none => simp
  | some x =>
    have := cend_le _ _ _ x (List.mem_of_getLast? h)
    simp; omega

theorem count_any (s : ByteArray) (w : World) (hs : s.size ≤ 4294967280) :
    Calls Try.prog 87 #[.string s] w fun e w' => ∃ k : Int, e = .returned (.int .i64 k) ∧ decide (k ≥ 0) = valid s.data.toList ∧ Below w.heap.size w w' := by
  have HC := Lib.hid (callsIn_wide.1 (codes_in s w hs))
  have hle := cend_le2 s.data.toList
  unfold valid
  rw [len_data] at hle ⊢
  generalize cend (cods (s.size + 1) s.data.toList 0) = c at *
  by_cases h : c = s.size
  · have t0 : decide ((c : Int) < (s.size : Int)) = false := decide_eq_false (by omega)
    have HV : Hid (decide (c = s.size) = true) := decide_eq_true h
    subst h
    go_enter Try.func87, Try.ntmps87
    go_wp2_with (go_at_call 101; refine HC.out.mono ?_; rintro e w1 ⟨p1, k1, c1, rfl, hb1⟩)
    go_ret
    exact ⟨_, rfl, by rw [HV.out]; simp, hb1⟩
  · have t0 : decide ((c : Int) < (s.size : Int)) = true := decide_eq_true (by omega)
    have HV : Hid (decide (c = s.size) = false) := decide_eq_false h
    have hlt : c < s.size := by omega
    clear h
    go_enter Try.func87, Try.ntmps87
    go_wp2_with (go_at_call 101; refine HC.out.mono ?_; rintro e w1 ⟨p1, k1, c1, rfl, hb1⟩)
    go_ret
    exact ⟨_, rfl, by rw [HV.out]; simp, hb1⟩

/-- utf.Valid: is a text codes' bytes? -/
theorem valid_any (s : ByteArray) (w : World) (hs : s.size ≤ 4294967280) :
    Calls Try.prog 56 #[.string s] w fun e w' => e = .returned (.bool (valid s.data.toList)) ∧ Below w.heap.size w w' := by
  have HC := Lib.hid (count_any s w hs)
  generalize valid s.data.toList = vd at *
  go_enter Try.func56, Try.ntmps56
  go_wp2_with (go_at_call 87; refine HC.out.mono ?_; rintro e w1 ⟨k, rfl, hk, hb1⟩)
  go_ret
  exact ⟨ret_b (by first | exact hk | simp), hb1⟩

end Go.Proofs.Ythbpkmmnoeikoaa

/-
  JSON's tokens: what stands at a list's beginning. No program text.
-/
namespace Go.Proofs.Ythbpkmmnoeikoaa.Tk
set_option linter.unusedVariables false
set_option linter.unusedSimpArgs false
abbrev F := List UInt8

def dig (c : UInt8) : Bool := decide (48 ≤ c.toNat ∧ c.toNat ≤ 57)
def let' (c : UInt8) : Bool := decide ((97 ≤ c.toNat ∧ c.toNat ≤ 122) ∨ (65 ≤ c.toNat ∧ c.toNat ≤ 90))
def blank (c : UInt8) : Bool := c == 32 || c == 9 || c == 10 || c == 13
def numc (c : UInt8) : Bool := dig c || c == 45 || c == 43 || c == 46 || c == 101 || c == 69
def span (p : UInt8 → Bool) (l : F) : Nat := (l.takeWhile p).length

def hex (c : UInt8) : Option Nat :=
  if 48 ≤ c.toNat ∧ c.toNat ≤ 57 then some (c.toNat - 48) else if 97 ≤ c.toNat ∧ c.toNat ≤ 102 then some (c.toNat - 87) else if 65 ≤ c.toNat ∧ c.toNat ≤ 70 then some (c.toNat - 55) else none
/-- digits in sixteen, so many of them -/
def hexs : Nat → F → Nat → Option Nat
  | 0, _, a => some a
  | _ + 1, [], _ => none
  | n + 1, c :: l, a => match hex c with | none => none | some d => hexs n l (a * 16 + d)
def unit (l : F) : Option Nat := if l.head? = some 92 ∧ l.tail.head? = some 117 then hexs 4 (l.drop 2) 0 else none
def simple (c : UInt8) : Option UInt8 :=
  if c = 34 ∨ c = 92 ∨ c = 47 then some c else if c = 98 then some 8 else if c = 102 then some 12 else if c = 110 then some 10 else if c = 114 then some 13 else if c = 116 then some 9 else none
def uesc (l : F) : Option (F × Nat) :=
  match unit l with
  | none => none
  | some c => if Uf.code c then some (Uf.put c, 6) else if 56320 ≤ c then none else
    match unit (l.drop 6) with
    | none => none
    | some d => if 56320 ≤ d ∧ d ≤ 57343 then some (Uf.put (65536 + (c - 55296) * 1024 + (d - 56320)), 12) else none
/-- what an escape means, and how long it is -/
def esc (l : F) : Option (F × Nat) :=
  match l.tail with
  | [] => uesc l
  | c :: _ => match simple c with | some x => some ([x], 2) | none => uesc l

def sh (k : Nat) (p : F × Nat × Bool) : F × Nat × Bool := (p.1, p.2.1 + k, p.2.2)
/-- from behind a quote on -/
def txt : Nat → F → F → F × Nat × Bool
  | 0, _, _ => ([], 0, false)
  | _ + 1, [], _ => ([], 0, false)
  | n + 1, c :: r, a =>
    if c = 34 then (a, 1, true)
    else if c = 92 then (match esc (c :: r) with | none => ([], 0, false) | some p => sh p.2 (txt n ((c :: r).drop p.2) (a ++ p.1)))
    else (match Uf.get (c :: r) with | none => ([], 0, false) | some p => if c.toNat < 32 then ([], 0, false) else sh p.2 (txt n ((c :: r).drop p.2) (a ++ (c :: r).take p.2)))

def digs (l : F) : Nat := span dig l
def body (l : F) : F := if l.head? = some 45 then l.tail else l
def frac (l : F) : Option F := if l.head? = some 46 then (if digs l.tail = 0 then none else some (l.tail.drop (digs l.tail))) else some l
def sign (l : F) : F := if l.head? = some 43 ∨ l.head? = some 45 then l.tail else l
def expo (l : F) : Option F := if l.head? = some 101 ∨ l.head? = some 69 then (if digs (sign l.tail) = 0 then none else some ((sign l.tail).drop (digs (sign l.tail)))) else some l
/-- what a row says; an error's number -/
def number (l : F) : Int × Int :=
  if digs (body l) = 0 ∨ (1 < digs (body l) ∧ (body l).head? = some 48) then (0, 2) else
  match frac ((body l).drop (digs (body l))) with
  | none => (0, 2)
  | some r => match expo r with
    | none => (0, 2)
    | some q => if q ≠ [] then (0, 2) else if (body l).drop (digs (body l)) ≠ [] then (0, 5) else if l = [45, 48] then (0, 0) else Nm.parse l

structure Tok where
  kind : Nat
  at' : Nat
  end' : Nat
  s : F
  n : Int
def zero : Tok := ⟨0, 0, 0, [], 0⟩
def mark (c : UInt8) : Option Nat := if c = 91 then some 1 else if c = 93 then some 2 else if c = 123 then some 3 else if c = 125 then some 4 else if c = 58 then some 5 else if c = 44 then some 6 else none
def word (w : F) : Bool := w == [116, 114, 117, 101] || w == [102, 97, 108, 115, 101] || w == [110, 117, 108, 108]
/-- the token at the beginning, behind k blanks -/
def tok (k : Nat) (m : F) : Tok × Nat × Int :=
  match m with
  | [] => (⟨0, k, k, [], 0⟩, k, 0)
  | c :: r => match mark c with
    | some j => (⟨j, k, k + 1, [], 0⟩, k + 1, 0)
    | none =>
      if c = 34 then (if (txt (r.length + 1) r []).2.2 then (⟨7, k, k + 1 + (txt (r.length + 1) r []).2.1, (txt (r.length + 1) r []).1, 0⟩, k + 1 + (txt (r.length + 1) r []).2.1, 0) else (zero, k + 1 + (txt (r.length + 1) r []).2.1, 2))
      else if dig c = true ∨ c = 45 then
        (if (number ((c :: r).takeWhile numc)).2 ≠ 0 then (zero, k, (number ((c :: r).takeWhile numc)).2) else (⟨8, k, k + span numc (c :: r), [], (number ((c :: r).takeWhile numc)).1⟩, k + span numc (c :: r), 0))
      else if word ((c :: r).takeWhile let') then (⟨9, k, k + span let' (c :: r), (c :: r).takeWhile let', 0⟩, k + span let' (c :: r), 0) else (zero, k, 2)
/-- the token at a place of a text -/
def next (l : F) (a : Nat) : Tok × Nat × Int := tok (a + span blank (l.drop a)) (l.drop (a + span blank (l.drop a)))

theorem span_le (p : UInt8 → Bool) (l : F) : span p l ≤ l.length := by
  unfold span
  have := (List.takeWhile_prefix p (l := l)).length_le
  exact this
theorem span_take (p : UInt8 → Bool) (l : F) : l.take (span p l) = l.takeWhile p := by
  unfold span
  exact (List.prefix_iff_eq_take.1 (List.takeWhile_prefix p)).symm
theorem span_cons (p : UInt8 → Bool) (c : UInt8) (l : F) : span p (c :: l) = if p c then span p l + 1 else 0 := by
  unfold span
  cases h : p c <;> simp [List.takeWhile_cons, h]
/-- counting on -/
theorem span_step (p : UInt8 → Bool) (l : F) (n : Nat) (h : n ≤ span p l) (hl : n < l.length) : (p l[n] = true → n + 1 ≤ span p l) ∧ (p l[n] = false → span p l = n) := by
  induction l generalizing n with
  | nil => simp at hl
  | cons c l ih =>
    rw [span_cons] at *
    cases n with
    | zero =>
      simp only [List.getElem_cons_zero]
      cases hc : p c <;> simp
    | succ n =>
      cases hc : p c with
      | false => rw [hc] at h; simp at h
      | true =>
        rw [hc] at h
        simp only [if_true] at h
        have := ih n (by omega) (by simpa using hl)
        simp only [List.getElem_cons_succ, if_true]
        exact ⟨fun q => by have := this.1 q; omega, fun q => by have := this.2 q; omega⟩

end Go.Proofs.Ythbpkmmnoeikoaa.Tk

/-
  The library's contracts that the texts of this claim use, laid at this program's numbers (written by the kit's tools, in plain words). No condition beside each contract's own.
-/
namespace Go.Proofs
open Go.Shelf
def Try.lays137_ren : Go.Shelf.Ren := ⟨fun | 137 => 66 | 217 => 90 | 266 => 102 | n => n, fun | 9 => 9 | 5 => 5 | 3 => 3 | n => n, fun | n => n⟩
theorem Try.lays137 : Go.Proofs.Lays.n137 Try.prog Try.lays137_ren := {
  mixed := by kernel_rfl
  f137 := Try.func66.trans (congrArg some (by kernel_rfl))
  f217 := Try.func90.trans (congrArg some (by kernel_rfl))
  f266 := Try.func102.trans (congrArg some (by kernel_rfl))
  t3 := Try.underlying3
  a3 := Try.isAgg3
  z3 := Try.sizeOf3
  v3 := Try.zeroValue3
  t5 := Try.underlying5
  a5 := Try.isAgg5
  z5 := Try.sizeOf5
  v5 := Try.zeroValue5
  t9 := Try.underlying9
  a9 := Try.isAgg9
  z9 := Try.sizeOf9
  v9 := Try.zeroValue9 }
open Go.RowKit in
theorem Try.strings_IndexByte (s : ByteArray) (c : Int) (w : World) :
    Calls Try.prog 66 #[.string s, .int .u8 c] w fun e w' => e = .returned (.int .i64 (Lib.indexByte s.data.toList c.toNat.toUInt8)) ∧ w' = w := Any.strings_IndexByte Try.lays137 s c w
def Try.lays210_ren : Go.Shelf.Ren := ⟨fun | 210 => 109 | 206 => 115 | n => n, fun | 9 => 9 | 4 => 4 | 3 => 3 | n => n, fun | n => n⟩
theorem Try.lays210 : Go.Proofs.Lays.n210 Try.prog Try.lays210_ren := {
  mixed := by kernel_rfl
  f206 := Try.func115.trans (congrArg some (by kernel_rfl))
  f210 := Try.func109.trans (congrArg some (by kernel_rfl))
  t3 := Try.underlying3
  a3 := Try.isAgg3
  z3 := Try.sizeOf3
  v3 := Try.zeroValue3
  t4 := Try.underlying4
  a4 := Try.isAgg4
  z4 := Try.sizeOf4
  v4 := Try.zeroValue4
  t9 := Try.underlying9
  a9 := Try.isAgg9
  z9 := Try.sizeOf9
  v9 := Try.zeroValue9 }
open Go.RowKit in
theorem Try.stringslite_CutPrefix (s p : ByteArray) (w : World) :
    Calls Try.prog 109 #[.string s, .string p] w fun e w' => e = .returned (.tuple #[.string ⟨(Lib.trimPrefix s.data.toList p.data.toList).toArray⟩, .bool (Lib.hasPrefix s.data.toList p.data.toList)]) ∧ w' = w := Any.stringslite_CutPrefix Try.lays210 s p w
def Try.lays103_ren : Go.Shelf.Ren := ⟨fun | 103 => 94 | 210 => 109 | 206 => 115 | n => n, fun | 9 => 9 | 4 => 4 | 24 => 133 | 3 => 3 | n => n, fun | n => n⟩
theorem Try.lays103 : Go.Proofs.Lays.n103 Try.prog Try.lays103_ren := {
  mixed := by kernel_rfl
  f103 := Try.func94.trans (congrArg some (by kernel_rfl))
  f206 := Try.func115.trans (congrArg some (by kernel_rfl))
  f210 := Try.func109.trans (congrArg some (by kernel_rfl))
  t3 := Try.underlying3
  a3 := Try.isAgg3
  z3 := Try.sizeOf3
  v3 := Try.zeroValue3
  t4 := Try.underlying4
  a4 := Try.isAgg4
  z4 := Try.sizeOf4
  v4 := Try.zeroValue4
  t9 := Try.underlying9
  a9 := Try.isAgg9
  z9 := Try.sizeOf9
  v9 := Try.zeroValue9
  t24 := Try.underlying133
  a24 := Try.isAgg133
  z24 := Try.sizeOf133
  v24 := Try.zeroValue133 }
open Go.RowKit in
theorem Try.strings_CutPrefix (s p : ByteArray) (w : World) :
    Calls Try.prog 94 #[.string s, .string p] w fun e w' => e = .returned (.tuple #[.string ⟨(Lib.trimPrefix s.data.toList p.data.toList).toArray⟩, .bool (Lib.hasPrefix s.data.toList p.data.toList)]) ∧ w' = w := Any.strings_CutPrefix Try.lays103 s p w
def Try.lays217_ren : Go.Shelf.Ren := ⟨fun | 217 => 90 | 266 => 102 | n => n, fun | 9 => 9 | 5 => 5 | 3 => 3 | n => n, fun | n => n⟩
theorem Try.lays217 : Go.Proofs.Lays.n217 Try.prog Try.lays217_ren := {
  mixed := by kernel_rfl
  f217 := Try.func90.trans (congrArg some (by kernel_rfl))
  f266 := Try.func102.trans (congrArg some (by kernel_rfl))
  t3 := Try.underlying3
  a3 := Try.isAgg3
  z3 := Try.sizeOf3
  v3 := Try.zeroValue3
  t5 := Try.underlying5
  a5 := Try.isAgg5
  z5 := Try.sizeOf5
  v5 := Try.zeroValue5
  t9 := Try.underlying9
  a9 := Try.isAgg9
  z9 := Try.sizeOf9
  v9 := Try.zeroValue9 }
open Go.RowKit Go.Lib in
theorem Try.stringslite_IndexByte (s : ByteArray) (c : Int) (w : World) :
    Calls Try.prog 90 #[.string s, .int .u8 c] w fun e w' => e = .returned (.int .i64 (Lib.indexByte s.data.toList c.toNat.toUInt8)) ∧ w' = w := Any.stringslite_IndexByte Try.lays217 s c w
def Try.lays206_ren : Go.Shelf.Ren := ⟨fun | 206 => 115 | n => n, fun | 9 => 9 | 4 => 4 | 3 => 3 | n => n, fun | n => n⟩
theorem Try.lays206 : Go.Proofs.Lays.n206 Try.prog Try.lays206_ren := {
  mixed := by kernel_rfl
  f206 := Try.func115.trans (congrArg some (by kernel_rfl))
  t3 := Try.underlying3
  a3 := Try.isAgg3
  z3 := Try.sizeOf3
  v3 := Try.zeroValue3
  t4 := Try.underlying4
  a4 := Try.isAgg4
  z4 := Try.sizeOf4
  v4 := Try.zeroValue4
  t9 := Try.underlying9
  a9 := Try.isAgg9
  z9 := Try.sizeOf9
  v9 := Try.zeroValue9 }
open Go.RowKit Go.Lib in
theorem Try.stringslite_HasPrefix (s p : ByteArray) (w : World) :
    Calls Try.prog 115 #[.string s, .string p] w fun e w' => e = .returned (.bool (Lib.hasPrefix s.data.toList p.data.toList)) ∧ w' = w := Any.stringslite_HasPrefix Try.lays206 s p w
def Try.lays99_ren : Go.Shelf.Ren := ⟨fun | 99 => 113 | 206 => 115 | n => n, fun | 9 => 9 | 4 => 4 | 3 => 3 | n => n, fun | n => n⟩
theorem Try.lays99 : Go.Proofs.Lays.n99 Try.prog Try.lays99_ren := {
  mixed := by kernel_rfl
  f99 := Try.func113.trans (congrArg some (by kernel_rfl))
  f206 := Try.func115.trans (congrArg some (by kernel_rfl))
  t3 := Try.underlying3
  a3 := Try.isAgg3
  z3 := Try.sizeOf3
  v3 := Try.zeroValue3
  t4 := Try.underlying4
  a4 := Try.isAgg4
  z4 := Try.sizeOf4
  v4 := Try.zeroValue4
  t9 := Try.underlying9
  a9 := Try.isAgg9
  z9 := Try.sizeOf9
  v9 := Try.zeroValue9 }
open Go.RowKit Go.Lib in
theorem Try.strings_HasPrefix (s p : ByteArray) (w : World) :
    Calls Try.prog 113 #[.string s, .string p] w fun e w' => e = .returned (.bool (Lib.hasPrefix s.data.toList p.data.toList)) ∧ w' = w := Any.strings_HasPrefix Try.lays99 s p w
def Try.lays208_ren : Go.Shelf.Ren := ⟨fun | 208 => 108 | 206 => 115 | n => n, fun | 9 => 9 | 4 => 4 | 3 => 3 | n => n, fun | n => n⟩
theorem Try.lays208 : Go.Proofs.Lays.n208 Try.prog Try.lays208_ren := {
  mixed := by kernel_rfl
  f206 := Try.func115.trans (congrArg some (by kernel_rfl))
  f208 := Try.func108.trans (congrArg some (by kernel_rfl))
  t3 := Try.underlying3
  a3 := Try.isAgg3
  z3 := Try.sizeOf3
  v3 := Try.zeroValue3
  t4 := Try.underlying4
  a4 := Try.isAgg4
  z4 := Try.sizeOf4
  v4 := Try.zeroValue4
  t9 := Try.underlying9
  a9 := Try.isAgg9
  z9 := Try.sizeOf9
  v9 := Try.zeroValue9 }
open Go.RowKit Go.Lib in
theorem Try.stringslite_TrimPrefix (s p : ByteArray) (w : World) :
    Calls Try.prog 108 #[.string s, .string p] w fun e w' => e = .returned (.string ⟨(Lib.trimPrefix s.data.toList p.data.toList).toArray⟩) ∧ w' = w := Any.stringslite_TrimPrefix Try.lays208 s p w
def Try.lays101_ren : Go.Shelf.Ren := ⟨fun | 101 => 93 | 208 => 108 | 206 => 115 | n => n, fun | 9 => 9 | 4 => 4 | 3 => 3 | n => n, fun | n => n⟩
theorem Try.lays101 : Go.Proofs.Lays.n101 Try.prog Try.lays101_ren := {
  mixed := by kernel_rfl
  f101 := Try.func93.trans (congrArg some (by kernel_rfl))
  f206 := Try.func115.trans (congrArg some (by kernel_rfl))
  f208 := Try.func108.trans (congrArg some (by kernel_rfl))
  t3 := Try.underlying3
  a3 := Try.isAgg3
  z3 := Try.sizeOf3
  v3 := Try.zeroValue3
  t4 := Try.underlying4
  a4 := Try.isAgg4
  z4 := Try.sizeOf4
  v4 := Try.zeroValue4
  t9 := Try.underlying9
  a9 := Try.isAgg9
  z9 := Try.sizeOf9
  v9 := Try.zeroValue9 }
open Go.RowKit Go.Lib in
theorem Try.strings_TrimPrefix (s p : ByteArray) (w : World) :
    Calls Try.prog 93 #[.string s, .string p] w fun e w' => e = .returned (.string ⟨(Lib.trimPrefix s.data.toList p.data.toList).toArray⟩) ∧ w' = w := Any.strings_TrimPrefix Try.lays101 s p w
def Try.lays109_ren : Go.Shelf.Ren := ⟨fun | 109 => 55 | n => n, fun | 31 => 38 | 9 => 9 | 3 => 3 | 0 => 0 | 4 => 4 | n => n, fun | n => n⟩
theorem Try.lays109 : Go.Proofs.Lays.n109 Try.prog Try.lays109_ren := {
  mixed := by kernel_rfl
  f109 := Try.func55.trans (congrArg some (by kernel_rfl))
  t0 := Try.underlying0
  a0 := Try.isAgg0
  z0 := Try.sizeOf0
  v0 := Try.zeroValue0
  t3 := Try.underlying3
  a3 := Try.isAgg3
  z3 := Try.sizeOf3
  v3 := Try.zeroValue3
  t4 := Try.underlying4
  a4 := Try.isAgg4
  z4 := Try.sizeOf4
  v4 := Try.zeroValue4
  t9 := Try.underlying9
  a9 := Try.isAgg9
  z9 := Try.sizeOf9
  v9 := Try.zeroValue9
  t31 := Try.underlying38
  a31 := Try.isAgg38
  z31 := Try.sizeOf38
  v31 := Try.zeroValue38 }
open Go.Lib in
theorem Try.slices_Index_string (b off n c : Nat) (zs : List ByteArray) (x : ByteArray) (w : World) (hz : n ≤ zs.length) (hbig : n ≤ 9223372036854775807) (hc : ∀ j, j < zs.length → w.cell? ⟨b, off + j, none⟩ = some (.string (zs.getD j ByteArray.empty))) :
    Calls Try.prog 55 #[.slice (some ⟨b, off, none⟩) n c, .string x] w fun e w' => e = .returned (.int .i64 (Lib.idxOfS (zs.take n) x)) ∧ w' = w := Any.slices_Index_string Try.lays109 b off n c zs x w hz hbig hc
open Go.Lib in
theorem Try.slices_Index_string_empty (a : Option Addr) (c : Nat) (x : ByteArray) (w : World) :
    Calls Try.prog 55 #[.slice a 0 c, .string x] w fun e w' => e = .returned (.int .i64 (Lib.idxOfS [] x)) ∧ w' = w := Any.slices_Index_string_empty Try.lays109 a c x w
def Try.lays193_ren : Go.Shelf.Ren := ⟨fun | 193 => 60 | n => n, fun | 31 => 38 | 9 => 9 | 4 => 4 | 3 => 3 | 0 => 0 | n => n, fun | n => n⟩
theorem Try.lays193 : Go.Proofs.Lays.n193 Try.prog Try.lays193_ren := {
  mixed := by kernel_rfl
  f193 := Try.func60.trans (congrArg some (by kernel_rfl))
  t0 := Try.underlying0
  a0 := Try.isAgg0
  z0 := Try.sizeOf0
  v0 := Try.zeroValue0
  t3 := Try.underlying3
  a3 := Try.isAgg3
  z3 := Try.sizeOf3
  v3 := Try.zeroValue3
  t4 := Try.underlying4
  a4 := Try.isAgg4
  z4 := Try.sizeOf4
  v4 := Try.zeroValue4
  t9 := Try.underlying9
  a9 := Try.isAgg9
  z9 := Try.sizeOf9
  v9 := Try.zeroValue9
  t31 := Try.underlying38
  a31 := Try.isAgg38
  z31 := Try.sizeOf38
  v31 := Try.zeroValue38 }
open Go.RowKit Go.Lib in
theorem Try.slices_Equal_string (b1 o1 n c b2 o2 m d : Nat) (xs ys : List ByteArray) (w : World) (hx : n ≤ xs.length) (hy : m ≤ ys.length) (hbig : n ≤ 9223372036854775807) (hbig2 : m ≤ 9223372036854775807) (hc1 : ∀ j, j < xs.length → w.cell? ⟨b1, o1 + j, none⟩ = some (.string (xs.getD j ByteArray.empty))) (hc2 : ∀ j, j < ys.length → w.cell? ⟨b2, o2 + j, none⟩ = some (.string (ys.getD j ByteArray.empty))) :
    Calls Try.prog 60 #[.slice (some ⟨b1, o1, none⟩) n c, .slice (some ⟨b2, o2, none⟩) m d] w fun e w' => e = .returned (.bool (decide (xs.take n = ys.take m))) ∧ ∃ q, w' = w.drewN q := Any.slices_Equal_string Try.lays193 b1 o1 n c b2 o2 m d xs ys w hx hy hbig hbig2 hc1 hc2
open Go.RowKit Go.Lib in
theorem Try.slices_Equal_string_empty (a1 a2 : Option Addr) (c m d : Nat) (w : World) (hbig2 : m ≤ 9223372036854775807) :
    Calls Try.prog 60 #[.slice a1 0 c, .slice a2 m d] w fun e w' => e = .returned (.bool (decide (m = 0))) ∧ w' = w := Any.slices_Equal_string_empty Try.lays193 a1 a2 c m d w hbig2
open Go.RowKit Go.Lib in
theorem Try.slices_Equal_string_lens (a1 a2 : Option Addr) (n c m d : Nat) (w : World) (hnm : n ≠ m) :
    Calls Try.prog 60 #[.slice a1 n c, .slice a2 m d] w fun e w' => e = .returned (.bool false) ∧ w' = w := Any.slices_Equal_string_lens Try.lays193 a1 a2 n c m d w hnm
end Go.Proofs

/-
  token.digit, letter, the two closures of Next, and run: the longest row of bytes that a test takes. Condition: the text is no longer than an int.
-/
namespace Go.Proofs.Ythbpkmmnoeikoaa
open Go Go.RowKit
set_option linter.unusedVariables false
set_option linter.unusedSimpArgs false

theorem digit_any (c : UInt8) (w : World) : Calls Try.prog 68 #[.int .u8 (c.toNat : Int)] w fun e w' => e = .returned (.bool (Tk.dig c)) ∧ w' = w := by
  unfold Tk.dig
  rcases (by omega : c.toNat < 48 ∨ (48 ≤ c.toNat ∧ c.toNat ≤ 57) ∨ 57 < c.toNat) with h | h | h <;>
  · go_enter Try.func68, Try.ntmps68
    go_wp2
    go_ret
    exact ⟨ret_b (by rw [Bool.eq_iff_iff]; simp; try omega), rfl⟩

theorem or32 (c : UInt8) : bits .or .u8 (c.toNat : Int) 32 = ((c.toNat ||| 32 : Nat) : Int) := u8_or_nat c.toNat 32 c.toNat_lt (by decide)
theorem or32_let : ∀ n : Nat, n < 256 → ((97 ≤ n ||| 32 ∧ n ||| 32 ≤ 122) ↔ ((97 ≤ n ∧ n ≤ 122) ∨ (65 ≤ n ∧ n ≤ 90))) := by decide +kernel
theorem letter_any (c : UInt8) (w : World) : Calls Try.prog 71 #[.int .u8 (c.toNat : Int)] w fun e w' => e = .returned (.bool (Tk.let' c)) ∧ w' = w := by
  have h1 := or32 c
  have h2 := or32_let c.toNat c.toNat_lt
  have hl : Tk.let' c = decide (97 ≤ c.toNat ||| 32 ∧ c.toNat ||| 32 ≤ 122) := by unfold Tk.let'; congr 1; exact propext h2.symm
  rw [hl]
  clear hl h2
  generalize c.toNat ||| 32 = m at *
  rcases (by omega : m < 97 ∨ (97 ≤ m ∧ m ≤ 122) ∨ 122 < m) with h | h | h <;>
  · go_enter Try.func71, Try.ntmps71
    go_wp2
    go_ret
    exact ⟨ret_b (by rw [Bool.eq_iff_iff]; simp; try omega), rfl⟩

theorem blank_any (c : UInt8) (w : World) : Calls Try.prog 65 #[.int .u8 (c.toNat : Int)] w fun e w' => e = .returned (.bool (Tk.blank c)) ∧ w' = w := by
  have hb : Tk.blank c = (((((c.toNat : Int) == 32) || ((c.toNat : Int) == 9)) || ((c.toNat : Int) == 10)) || ((c.toNat : Int) == 13)) := by
    have h : ∀ d : UInt8, ∀ n : Nat, d.toNat = n → (c == d) = ((c.toNat : Int) == (n : Int)) := by
      intro d n hd
      by_cases hc : c = d
      · subst hc; rw [hd]; simp
      · have h1 : (c == d) = false := beq_eq_false_iff_ne.2 hc
        have h2 : ((c.toNat : Int) == (n : Int)) = false := by rw [beq_eq_false_iff_ne]; intro e; exact hc (UInt8.toNat_inj.1 (by omega))
        rw [h1, h2]
    unfold Tk.blank
    rw [h 32 32 rfl, h 9 9 rfl, h 10 10 rfl, h 13 13 rfl]; rfl
  rw [hb]
  clear hb
  rcases (by omega : (c.toNat : Int) = 32 ∨ (c.toNat : Int) = 9 ∨ (c.toNat : Int) = 10 ∨ (c.toNat : Int) = 13 ∨ ((c.toNat : Int) ≠ 32 ∧ (c.toNat : Int) ≠ 9 ∧ (c.toNat : Int) ≠ 10 ∧ (c.toNat : Int) ≠ 13)) with h | h | h | h | ⟨h1, h2, h3, h4⟩
  · rw [h]
    go_enter Try.func65, Try.ntmps65
    go_wp2
    go_ret
    exact ⟨rfl, rfl⟩
  · rw [h]
    go_enter Try.func65, Try.ntmps65
    go_wp2
    go_ret
    exact ⟨rfl, rfl⟩
  · rw [h]
    go_enter Try.func65, Try.ntmps65
    go_wp2
    go_ret
    exact ⟨rfl, rfl⟩
  · rw [h]
    go_enter Try.func65, Try.ntmps65
    go_wp2
    go_ret
    exact ⟨rfl, rfl⟩
  · have t1 : ((c.toNat : Int) == 32) = false := beq_eq_false_iff_ne.2 h1
    have t2 : ((c.toNat : Int) == 9) = false := beq_eq_false_iff_ne.2 h2
    have t3 : ((c.toNat : Int) == 10) = false := beq_eq_false_iff_ne.2 h3
    have t4 : ((c.toNat : Int) == 13) = false := beq_eq_false_iff_ne.2 h4
    rw [t1, t2, t3, t4]
    clear h1 h2 h3 h4
    go_enter Try.func65, Try.ntmps65
    go_wp2
    go_ret
    exact ⟨rfl, rfl⟩

theorem numc_ix : ∀ n : Nat, n < 256 → (decide (Lib.indexByte [45, 43, 46, 101, 69] (UInt8.ofNat n) ≥ 0)) = (UInt8.ofNat n == 45 || UInt8.ofNat n == 43 || UInt8.ofNat n == 46 || UInt8.ofNat n == 101 || UInt8.ofNat n == 69) := by decide +kernel
theorem numc_any (c : UInt8) (w : World) : Calls Try.prog 69 #[.int .u8 (c.toNat : Int)] w fun e w' => e = .returned (.bool (Tk.numc c)) ∧ w' = w := by
  have HD := Lib.hid (fun W => digit_any c W)
  have HI := Lib.hid (fun W => Try.strings_IndexByte ⟨#[45, 43, 46, 101, 69]⟩ (c.toNat : Int) W)
  have hix := numc_ix c.toNat c.toNat_lt
  have hc : UInt8.ofNat c.toNat = c := by simp
  rw [hc] at hix
  have hc2 : ((c.toNat : Int)).toNat.toUInt8 = c := by simp
  rw [hc2] at HI
  have hn : Tk.numc c = (Tk.dig c || decide (Lib.indexByte [45, 43, 46, 101, 69] c ≥ 0)) := by rw [hix]; unfold Tk.numc; simp [Bool.or_assoc]
  rw [hn]
  clear hix hn hc hc2
  change Hid (∀ W, Calls _ _ _ W fun e w' => e = .returned (.int .i64 (Lib.indexByte [45, 43, 46, 101, 69] c)) ∧ w' = W) at HI
  generalize Lib.indexByte [45, 43, 46, 101, 69] c = k at *
  cases hd : Tk.dig c with
  | true =>
    rw [hd] at HD
    go_enter Try.func69, Try.ntmps69
    go_wp2_with (go_at_call 68; refine (HD.out _).mono ?_; rintro e w1 ⟨rfl, rfl⟩)
    go_ret
    exact ⟨rfl, rfl⟩
  | false =>
    rw [hd] at HD
    go_enter Try.func69, Try.ntmps69
    go_wp2_with (first | (go_at_call 68; refine (HD.out _).mono ?_; rintro e w1 ⟨rfl, rfl⟩) | (go_at_call 66; refine (HI.out _).mono ?_; rintro e w1 ⟨rfl, rfl⟩))
    go_ret
    exact ⟨ret_b (by simp), rfl⟩

end Go.Proofs.Ythbpkmmnoeikoaa
