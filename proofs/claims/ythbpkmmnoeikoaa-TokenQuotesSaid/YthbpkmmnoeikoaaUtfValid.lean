/-
  The program's utf.Codes, Count, Valid: is a text codes' bytes? Condition: the text is shorter than 2^32 bytes.
-/
import Derived.Test.YthbpkmmnoeikoaaUtfGet
import Derived.Test.YthbpkmmnoeikoaaConv
import Derived.Test.YthbpkmmnoeikoaaNumPrint
namespace Go.Proofs.Ythbpkmmnoeikoaa
open Go.RowKit Go.Shelf
attribute [local go_sem] Oper.semAt_some
set_option linter.unusedVariables false
set_option linter.unusedSimpArgs false

/-- a text's codes, each with the place behind it -/
def cods : Nat → List UInt8 → Nat → List (Nat × Nat)
  | 0, _, _ => []
  | n + 1, l, i => match Uf.get l with | none => [] | some p => (i + p.2, p.1) :: cods n (l.drop p.2) (i + p.2)
theorem cods_none {l : List UInt8} (n i : Nat) (h : Uf.get l = none) : cods (n + 1) l i = [] := by rw [cods, h]
theorem cods_some {l : List UInt8} {p : Nat × Nat} (n i : Nat) (h : Uf.get l = some p) : cods (n + 1) l i = (i + p.2, p.1) :: cods n (l.drop p.2) (i + p.2) := by rw [cods, h]
/-- where the codes end -/
def cend (T : List (Nat × Nat)) : Nat := (T.getLast?.map (·.1)).getD 0
def valid (l : List UInt8) : Bool := decide (cend (cods (l.length + 1) l 0) = l.length)

theorem get_len {l : List UInt8} {p : Nat × Nat} (h : Uf.get l = some p) : 1 ≤ p.2 ∧ p.2 ≤ 4 ∧ p.2 ≤ l.length ∧ p.1 ≤ 1114111 := by
  cases l with
  | nil => cases h
  | cons b r =>
    have hb := first_bounds b
    unfold Uf.get at h
    dsimp only at h
    split at h
    · cases h
    · rename_i hn
      split at h
      · rename_i hc
        simp only [Option.some.injEq] at h
        subst h
        have hcc := hc.2.2
        unfold Uf.code at hcc
        simp at hcc
        refine ⟨by dsimp only; omega, hb.1, by simp only [List.length_cons]; omega, by dsimp only; omega⟩
      · cases h

theorem all_any (s : ByteArray) (w : World) :
    Calls Try.prog 112 #[.string s] w fun e w' => e = .returned (.func (.func 117) #[] #[.pointer (some ⟨w.heap.size, 0, none⟩)]) ∧ w' = w.alloc (.cells #[.string s] 9) := by
  go_enter Try.func112, Try.ntmps112
  go_wp2
  go_ret
  exact ⟨rfl, rfl⟩

/-- blocks of bytes lie as they lay -/
def KpB (W W' : World) : Prop := ∀ (b : Nat) (c : Array Value) (f : Nat × Nat), W.heap[b]? = some (.cells c 5 f) → W'.heap[b]? = some (.cells c 5 f)
theorem KpB.trans {A B C : World} (h : KpB A B) (k : KpB B C) : KpB A C := fun b c f hb => k b c f (h b c f hb)

/-- at a round's head -/
def CoR (T : List (Nat × Nat)) (s : ByteArray) (B0 : Nat) (o0 : Obj) (J : List (Nat × Nat) → World → Prop) (v : Value) (wr : World) : Prop :=
  ∃ (pre : List (Nat × Nat)) (n i : Nat) (A : World), T = pre ++ cods (n + 1) (s.data.toList.drop i) i ∧ s.size - i < n + 1 ∧ i ≤ s.size ∧ v = .int .i64 (i : Int) ∧ J pre A ∧ Below A.heap.size A wr ∧ wr.heap[B0]? = some o0

theorem bytes_block {w W : World} {xs : List UInt8} {B0 : Nat} {p : Option Addr} {k c : Nat} (h : BytesV w (.slice p k c) xs) (hp : p = some ⟨B0, 0, none⟩) (hk : W.heap[B0]? = w.heap[B0]?) : BytesV W (.slice p k c) xs := by
  subst hp
  obtain ⟨p', cap, e, h1, h2, hc⟩ := h
  refine ⟨p', cap, e, h1, h2, fun j hj => ?_⟩
  obtain ⟨b, o, q1, q2⟩ := hc j hj
  cases e; cases q1
  exact ⟨B0, 0, rfl, (World.cell?_of_block (show W.heap[(⟨B0, 0 + j, none⟩ : Addr).block]? = w.heap[(⟨B0, 0 + j, none⟩ : Addr).block]? from hk)).trans q2⟩

set_option maxRecDepth 100000 in
set_option maxHeartbeats 2000000 in
theorem all1_in (n l Bx : Nat) (s : ByteArray) (hs : s.size ≤ 4294967280) (T : List (Nat × Nat)) (hT : T = cods (s.size + 1) s.data.toList 0) (J : List (Nat × Nat) → World → Prop) (J1 : List (Nat × Nat) → (Nat × Nat) → World → Prop) (Jx : List (Nat × Nat) → World → Prop)
    (hstep : ∀ pre x A B, J pre A → pre ++ [x] <+: T → Below A.heap.size A B → J1 pre x B)
    (hend : ∀ pre A B, J pre A → Below A.heap.size A B → J pre B)
    (hY : ∀ pre x W1, J1 pre x W1 → pre ++ [x] <+: T → YieldAt Fence.wide (n - 1) Try.prog l #[.int .i64 (x.1 : Int), .int .i64 (x.2 : Int)] W1 fun e W' =>
      (e = .returned (.bool true) ∧ J (pre ++ [x]) W' ∧ KpB W1 W') ∨ (e = .returned (.bool false) ∧ Jx (pre ++ [x]) W'))
    (W : World) (hB : Boxed W Bx 9 (.string s)) (h0 : J [] W) :
    CallsIn Fence.wide n Try.prog 117 #[.func (.yield l) #[] #[], .pointer (some ⟨Bx, 0, none⟩)] W fun e W' => (∃ v, e = .returned v) ∧
      ((∃ ys, ys = T ∧ J ys W') ∨ (∃ pre, pre <+: T ∧ Jx pre W')) := by
  have hcv := cv_run s
  have hbv := cv_bytes s W (by unfold maxLen; omega)
  have hbl0 := cv_below s W
  have hblk : (W.drew.alloc (cvBlk s W)).heap[W.heap.size]? = some (cvBlk s W) := heap_alloc_new W.drew (cvBlk s W)
  have hc := hB.cell
  refine callsIn_of_wp Try.func117 rfl trivial ?_ rfl
  simp only [Try.ntmps117, List.size_toArray, List.length_cons, List.length_nil, Nat.reduceAdd, Nat.reduceSub, Array.replicate_succ, Array.replicate_zero, List.push_toArray, List.append_toArray, List.nil_append, List.cons_append]
  gi_wp2
  gi_loopw [4] (CoR T s W.heap.size (cvBlk s W) J) (fun v wr => s.size - (intOf v).toNat)
  case atStart =>
    exact ⟨[], s.size, 0, W, hT, by omega, by omega, rfl, h0, hbl0, hblk⟩
  case round =>
    obtain ⟨pre, m, i, A, hx, hm, hi, rfl, hJ, hbl, hb⟩ := hrel
    have hbw : BytesV wr (.slice (some ⟨W.heap.size, 0, none⟩) s.size (cvCap s W)) s.data.toList := bytes_block hbv rfl (hb.trans hblk.symm)
    have hJ1 := hend pre A wr hJ hbl
    by_cases hlt : i < s.size
    · have hga := get_any _ s.data.toList i wr hbw (by rw [len_data]; omega) (by rw [len_data]; omega)
      have tl : decide ((i : Int) < (s.size : Int)) = true := decide_eq_true (by omega)
      cases hg : Uf.get (s.data.toList.drop i) with
      | none =>
        rw [hg] at hga
        rw [cods_none m i hg, List.append_nil] at hx
        have HX := Lib.hid hx
        clear hx hg
        unfold getV at hga
        gi_wp2_with (refine ⟨trivial, fun h => (by cases h), ?_⟩; refine (callsIn_wide.2 hga).mono ?_; rintro e w1 ⟨rfl, rfl⟩)
        refine ⟨fun _ h => (by cases h), ?_⟩
        gi_wp2
        refine bodyPost_ret (results_none rfl _ _ _) rfl ?_
        exact ⟨⟨_, rfl⟩, .inl ⟨_, HX.out.symm, hJ1⟩⟩
      | some p =>
        rw [hg] at hga
        obtain ⟨g1, g2, g3, g4⟩ := get_len hg
        rw [List.length_drop, len_data] at g3
        rw [cods_some m i hg, List.drop_drop] at hx
        unfold getV at hga
        have hpre : pre ++ [(i + p.2, p.1)] <+: T := by rw [hx]; exact ⟨_, by simp; rfl⟩
        obtain ⟨fn, tmps, assign, body, hy, hR⟩ := hY pre (i + p.2, p.1) wr (hstep pre _ A wr hJ hpre hbl) hpre
        have HX := Lib.hid hx
        dsimp only at hy
        have hpl : ((i + p.2 : Nat) : Int) = (i : Int) + (p.2 : Int) := by omega
        rw [hpl] at hy
        clear hx hg
        gi_wp2_with (refine ⟨trivial, fun h => (by cases h), ?_⟩; refine (callsIn_wide.2 hga).mono ?_; rintro e w1 ⟨rfl, rfl⟩)
        refine ⟨fun h => (by cases h), ?_⟩
        refine hR.mono ?_
        rintro e W3 (⟨rfl, hJ3, hk3⟩ | ⟨rfl, hJx3⟩)
        · have hb3 := hk3 _ _ _ hb
          gi_wp2
          go_roundw
          case rel =>
            refine ⟨pre ++ [(i + p.2, p.1)], m - 1, i + p.2, W3, ?_, by omega, by omega, by simp, hJ3, Below.refl _ _, hb3⟩
            rw [Nat.sub_add_cancel (by omega), HX.out]; simp
          case measure => simp [intOf]; omega
        · gi_wp2
          refine bodyPost_ret (results_none rfl _ _ _) rfl ?_
          exact ⟨⟨_, rfl⟩, .inr ⟨_, hpre, hJx3⟩⟩
    · have tl : decide ((i : Int) < (s.size : Int)) = false := decide_eq_false (by omega)
      have hd : s.data.toList.drop i = [] := List.drop_eq_nil_of_le (by rw [len_data]; omega)
      rw [hd, cods_none m i rfl, List.append_nil] at hx
      have HX := Lib.hid hx
      clear hx hd
      gi_wp2
      go_end0
      exact ⟨⟨_, rfl⟩, .inl ⟨_, HX.out.symm, hJ1⟩⟩

theorem all_seq (n Bx : Nat) (s : ByteArray) (hs : s.size ≤ 4294967280) (w : World) (hB : Boxed w Bx 9 (.string s)) :
    SeqOf Fence.wide n Try.prog 117 #[.pointer (some ⟨Bx, 0, none⟩)] (fun x : Nat × Nat => #[.int .i64 (x.1 : Int), .int .i64 (x.2 : Int)]) KpB (fun pre x => pre ++ [x] <+: cods (s.size + 1) s.data.toList 0)
      (fun _ _ A B => Below A.heap.size A B) (fun A B => Below A.heap.size A B) (fun ys => ys = cods (s.size + 1) s.data.toList 0) (fun pre => pre <+: cods (s.size + 1) s.data.toList 0) w :=
  fun l J J1 Jx W hW hst hen hY h0 => all1_in n l Bx s hs _ rfl J J1 Jx hst hen hY W ((hW.block Bx hB.lt).trans hB) h0

theorem infoI : (Try.prog.info? 3).map (fun i => (i.zero, i.size, i.bytes)) = some (some (.int .i64 0), 1, 8) := by kernel_rfl
def encI (x : Nat × Nat) : Value := .int .i64 (x.2 : Int)
def CoI (n₀ nb Bo Be : Nat) (w0 : World) (pre : List (Nat × Nat)) (W : World) : Prop :=
  (∃ v, Boxed W Bo 117 v ∧ W.ownsRow nb 3 1 v pre.length (pre.map encI)) ∧ Boxed W Be 3 (.int .i64 (cend pre : Int)) ∧ Below n₀ w0 W ∧ nb ≤ W.heap.size

theorem CoI.own {n₀ nb Bo Be B : Nat} {w0 : World} (h0 : n₀ ≤ w0.heap.size) (hB : n₀ ≤ B) : OwnFrom B (CoI n₀ nb Bo Be w0) := by
  refine OwnFrom.and ?_ (OwnFrom.and ?_ (OwnFrom.and (ownFrom_below h0 hB) ?_))
  · have h := Own.from (holdsRow_own nb Bo 117 3 1 (fun pre : List (Nat × Nat) => pre.length) (fun pre => pre.map encI) (fun _ _ => True)) B
    intro s W W' row ⟨v, h1, h2⟩ hg hr
    obtain ⟨v, h1, h2, _⟩ := h s W W' row ⟨v, h1, h2, trivial⟩ hg hr
    exact ⟨v, h1, h2⟩
  · rintro s W W' row hu hg hr
    refine hu.kept hg (fun e => ?_)
    obtain ⟨_, o, ho, hc⟩ := hr _ e.symm
    rw [show W.heap[Be]? = _ from hu] at ho; cases ho; cases hc
  · exact fun s W W' row hs hg _ => Nat.le_trans hs hg.size
theorem CoI.step {n₀ nb Bo Be : Nat} {w0 A B : World} {pre : List (Nat × Nat)} (h : CoI n₀ nb Bo Be w0 pre A) (hs : Below A.heap.size A B) (hn : n₀ ≤ A.heap.size) : CoI n₀ nb Bo Be w0 pre B := by
  obtain ⟨⟨v, h1, h2⟩, h3, h4, h5⟩ := h
  refine ⟨⟨v, (hs.block Bo h1.lt).trans h1, h2.kept (row := none) ⟨hs.os, hs.tape, hs.output, hs.size, fun k hk _ => hs.block k hk⟩ ?_⟩, (hs.block Be h3.lt).trans h3, h4.trans (hs.mono hn), Nat.le_trans h5 hs.size⟩
  cases hv : v.ownBlock
  · exact .inl rfl
  · exact .inr (by simp)
theorem own_ne {W : World} {nb k Be : Nat} {e : TypeId} {v : Value} {xs : List Value} (h : W.ownsRow nb e 1 v k xs) (hlt : Be < nb) : some Be ≠ v.ownBlock := by
  intro e'
  have := (h.lt _ e'.symm).1
  omega
theorem keepsNo_below {B : Nat} {A A' : World} (h : Below A.heap.size A A') : KeepsNo B A A' := fun k o _ hk _ => (h.block k (Array.getElem?_eq_some_iff.1 hk).1).trans hk
theorem KpB.alloc (W : World) (o : Obj) : KpB W (W.alloc o) := fun b c f hb => (Below.heap_alloc W o b (Array.getElem?_eq_some_iff.1 hb).1).trans hb
theorem KpB.grow {N n : Nat} {W W' : World} {v : Value} {xs : List Value} {e : TypeId} (he : e ≠ 5) (h : W.ownsRow N e 1 v n xs) (hg : W.grownBy W' v.ownBlock) : KpB W W' := fun b c f hb => by
  refine (hg.block b (Array.getElem?_eq_some_iff.1 hb).1 (fun e' => ?_)).trans hb
  rcases h.2 with ⟨rfl, _⟩ | ⟨g, cap, cur, rfl, _, hblk, _⟩
  · simp [Value.ownBlock] at e'
  · simp only [Value.ownBlock, Option.some.injEq] at e'
    subst e'
    rw [hb] at hblk
    simp only [Option.some.injEq, Obj.cells.injEq] at hblk
    exact he hblk.2.1.symm
theorem KpB.set {W : World} {B : Nat} {t : TypeId} {v u : Value} (hb : Boxed W B t v) (ht : t ≠ 5) : KpB W (W.setCell ⟨B, 0, none⟩ u) := fun b c f hc => by
  refine ((grownBy_setCell' W B u).block b (Array.getElem?_eq_some_iff.1 hc).1 (fun e => ?_)).trans hc
  cases e
  rw [show W.heap[B]? = _ from hb] at hc
  simp only [Option.some.injEq, Obj.cells.injEq] at hc
  exact ht hc.2.1
theorem KpB.put {w : World} (W : World) (l : Nat) (o o' : Obj) (h : W.heap[l]? = some o) (ho : o.isCells = false) : KpB W (W.putObj l o') := fun b c f hc => by
  have hne : l ≠ b := by rintro rfl; rw [h] at hc; cases hc; cases ho
  exact (World.putObj_heap_other (by omega)).trans hc
theorem cend_snoc (pre : List (Nat × Nat)) (x : Nat × Nat) : cend (pre ++ [x]) = x.1 := by unfold cend; simp
theorem co_round {n₀ nb Bo Be : Nat} {w0 W w1 : World} {pre : List (Nat × Nat)} {x : Nat × Nat} {v v' : Value} {tmp : Obj} (hv : Boxed W Bo 117 v) (hrow : W.ownsRow nb 3 1 v pre.length (pre.map encI)) (hu : Boxed W Be 3 (.int .i64 (cend pre : Int)))
    (hbl : Below n₀ w0 W) (hnb : nb ≤ W.heap.size) (hn : n₀ ≤ nb) (hBo : n₀ ≤ Bo) (hBe1 : n₀ ≤ Be) (hBe : Be < nb) (hne : Bo ≠ Be)
    (hown : w1.ownsRow nb 3 1 v' (pre.length + 1) (pre.map encI ++ [.int .i64 (x.2 : Int)])) (hgrow : (W.alloc tmp).grownBy w1 v.ownBlock) :
    Boxed w1 Bo 117 v ∧ Boxed (w1.setCell ⟨Bo, 0, none⟩ v') Be 3 (.int .i64 (cend pre : Int)) ∧
    KeepsOthers W ((w1.setCell ⟨Bo, 0, none⟩ v').setCell ⟨Be, 0, none⟩ (.int .i64 (x.1 : Int))) ∧ KpB W ((w1.setCell ⟨Bo, 0, none⟩ v').setCell ⟨Be, 0, none⟩ (.int .i64 (x.1 : Int))) ∧
    CoI n₀ nb Bo Be w0 (pre ++ [x]) ((w1.setCell ⟨Bo, 0, none⟩ v').setCell ⟨Be, 0, none⟩ (.int .i64 (x.1 : Int))) := by
  have hv1 : Boxed w1 Bo 117 v := (hv.alloc tmp).kept hgrow (hv.not_row (by decide) hrow)
  have hu1 : Boxed w1 Be 3 (.int .i64 (cend pre : Int)) := (hu.alloc tmp).kept hgrow (own_ne hrow hBe)
  have hv2 := hv1.set v'
  have hu2 : Boxed (w1.setCell ⟨Bo, 0, none⟩ v') Be 3 (.int .i64 (cend pre : Int)) := hu1.other (Ne.symm hne) v'
  have hr2 : (w1.setCell ⟨Bo, 0, none⟩ v').ownsRow nb 3 1 v' (pre.length + 1) (pre.map encI ++ [.int .i64 (x.2 : Int)]) := hown.kept (grownBy_setCell' w1 Bo v') (.inr (hv1.not_row (by decide) hown).symm)
  have hr3 := hr2.kept (grownBy_setCell' (w1.setCell ⟨Bo, 0, none⟩ v') Be (.int .i64 (x.1 : Int))) (.inr (own_ne hr2 hBe).symm)
  have hg2 : ∀ j, v.ownBlock = some j → nb ≤ j := fun j e => (hrow.lt j e).1
  refine ⟨hv1, hu2, ?_, ?_, ⟨⟨v', hv2.other hne _, by simpa [encI] using hr3⟩, ?_, ?_, ?_⟩⟩
  · refine (((KeepsOthers.alloc W tmp).trans (KeepsOthers.of_grownBy hgrow fun j o ej hj => ?_)).trans (KeepsOthers.setCell _ _ _)).trans (KeepsOthers.setCell _ _ _)
    rcases (hrow.alloc tmp).2 with ⟨rfl, _⟩ | ⟨g, cap, cur, rfl, _, hgb, _⟩
    · simp [Value.ownBlock] at ej
    · obtain rfl : g = j := by simpa [Value.ownBlock] using ej
      rw [hgb] at hj; cases hj; rfl
  · exact (((KpB.alloc W tmp).trans (KpB.grow (by decide) (hrow.alloc tmp) hgrow)).trans (KpB.set hv1 (by decide))).trans (KpB.set hu2 (by decide))
  · rw [cend_snoc]; exact hu2.set _
  · exact hbl.trans (((((Below.refl n₀ W).alloc (by omega) tmp).grown hgrow (by simp; omega) (fun j ej => by have := hg2 j ej; omega)).setCell (p := ⟨Bo, 0, none⟩) hBo v').setCell (p := ⟨Be, 0, none⟩) hBe1 _)
  · have h1 := hgrow.size
    simp at h1
    simp [World.setCell]; omega
theorem cods_len : ∀ (n : Nat) (l : List UInt8) (i : Nat), (cods n l i).length ≤ l.length
  | 0, _, _ => by simp [cods]
  | n + 1, l, i => by
    cases h : Uf.get l with
    | none => rw [cods_none n i h]; simp
    | some p =>
      have := get_len h
      have ih := cods_len n (l.drop p.2) (i + p.2)
      rw [cods_some n i h, List.length_cons]
      rw [List.length_drop] at ih; omega

set_option maxRecDepth 100000 in
set_option maxHeartbeats 2000000 in
theorem codes_in (s : ByteArray) (w : World) (hs : s.size ≤ 4294967280) :
    CallsIn Fence.wide 6 Try.prog 101 #[.string s] w fun e w' => ∃ p k c, e = .returned (.tuple #[.slice p k c, .int .i64 (cend (cods (s.size + 1) s.data.toList 0) : Int)]) ∧ Below w.heap.size w w' := by
  obtain ⟨i0, hi, hz0, hz1, hz2⟩ := info_parts infoI
  have hlen := cods_len (s.size + 1) s.data.toList 0
  rw [len_data] at hlen
  refine callsIn_of_wp_marks Try.func101 rfl trivial ?_ rfl
  simp only [Try.ntmps101, List.size_toArray, List.length_cons, List.length_nil, Nat.reduceAdd, Nat.reduceSub, Array.replicate_succ, Array.replicate_zero, List.push_toArray, List.append_toArray, List.nil_append, List.cons_append]
  gi_wp2_with (refine ⟨trivial, ?_⟩; gi_at_call 112; refine (callsIn_wide.2 (all_any _ _)).mono ?_; rintro e w' ⟨rfl, rfl⟩)
  have bO := Boxed.new w 117 (.slice none 0 0)
  have bE := Boxed.new (w.alloc (.cells #[.slice none 0 0] 117)) 3 (.int .i64 0)
  rw [World.size_alloc] at bE
  have bS := Boxed.new ((w.alloc (.cells #[.slice none 0 0] 117)).alloc (.cells #[.int .i64 0] 3)) 9 (.string s)
  rw [World.size_alloc, World.size_alloc] at bS
  have hB0 : Below w.heap.size w (((w.alloc (.cells #[.slice none 0 0] 117)).alloc (.cells #[.int .i64 0] 3)).alloc (.cells #[.string s] 9)) := (((Below.refl _ w).alloc (Nat.le_refl _) _).alloc (by simp) _).alloc (by simp; omega) _
  have hI0 : CoI w.heap.size (w.heap.size + 3) w.heap.size (w.heap.size + 1) w [] (((w.alloc (.cells #[.slice none 0 0] 117)).alloc (.cells #[.int .i64 0] 3)).alloc (.cells #[.string s] 9)) := ⟨⟨_, (bO.alloc _).alloc _, World.ownsRow_nil _ _ _ _⟩, bE.alloc _, hB0, by simp⟩
  refine wpIn_rangeFunc_of rfl (by omega) (gf := 117) (lb := #[.pointer (some ⟨w.heap.size + 1 + 1, 0, none⟩)]) rfl trivial (enters_of Try.func117 (by kernel_rfl) rfl)
    (all_seq 5 (w.heap.size + 1 + 1) s hs _ bS) (fun pre x A B hs => keepsNo_below hs) (fun A B hs => keepsNo_below hs) (fun h1 h2 => h1.trans h2)
    (fun W l o o' _ h ho _ => KpB.put (w := w) W l o o' h ho) (Below.refl _ _) (fun _ => rfl)
    (CoI w.heap.size (w.heap.size + 3) w.heap.size (w.heap.size + 1) w) (fun pre _ => CoI w.heap.size (w.heap.size + 3) w.heap.size (w.heap.size + 1) w pre) (fun _ _ _ => False)
    (CoI.own (Nat.le_refl _) (by simp; omega)) (fun _ => CoI.own (Nat.le_refl _) (by simp; omega)) (fun _ _ _ _ _ hs _ _ => hs)
    (fun pre x A B h _ hs => h.step hs h.2.2.1.size) (fun pre A B h hs => h.step hs h.2.2.1.size) hI0
    (fun x => { tmps := #[.string s, undef, .slice none 0 0, .int .i64 0, .pointer (some ⟨w.heap.size, 0, none⟩), .pointer (some ⟨w.heap.size + 1, 0, none⟩), .int .i64 (x.1 : Int), .int .i64 (x.2 : Int), .string s,
      .func (.func 117) #[] #[.pointer (some ⟨w.heap.size + 1 + 1, 0, none⟩)], .int .i64 (x.1 : Int), .int .i64 (x.2 : Int), undef, undef, undef, undef, undef, undef, undef], defers := [] }) ?assign ?body ?done ?stop
  case assign =>
    intro l x W K hK
    gi_wp2
    exact hK
  case body =>
    rintro l pre x W ⟨⟨v, hv, hrow⟩, hu, hB, hnb⟩ hok
    have hc := hv.cell
    have hce := hu.cell
    have hfe := hu.frozen
    have hpl : pre.length < 4294967290 := by
      have h1 := hok.length_le
      simp at h1; omega
    gi_wp2_with (gi_at_builtin; refine wpListIn_append_own _ rfl _ _ 117 rfl (w.heap.size + 3) 3 i0 (.int .i64 0) 1 8 Try.underlying117 hi hz0 hz1 hz2 rfl (by decide) _ _ _ rfl (hrow.alloc _) ⟨W.heap.size, 0, none⟩ 1 1 [.int .i64 (x.2 : Int)] rfl rfl (cell_one_new _ _ _) (by simp [Value.oneCell']) (by unfold maxLen; omega) (by omega) (by simp; omega) ?_; intro v' w1 hown' hgrow _; obtain ⟨g', cap', rfl⟩ := ownsRow_succ hown'; obtain ⟨hv1, hu2, hk, hkb, hI⟩ := co_round hv hrow hu hB hnb (by omega) (Nat.le_refl _) (by omega) (by omega) (by omega) hown' hgrow; have hc1 := hv1.cell; have hf1 := hv1.frozen; have hce2 := hu2.cell; have hfe2 := hu2.frozen)
    exact ⟨hk.from _, hkb, hI⟩
  case done =>
    rintro D ys W hD rfl ⟨⟨v, hv, hrow⟩, hu, hB, hnb⟩ hK
    have hc := hv.cell
    have hce := hu.cell
    obtain ⟨vp, vk, vc, rfl⟩ : ∃ p k c, v = .slice p k c := by
      rcases hrow.2 with ⟨rfl, _⟩ | ⟨g, cap, cur, rfl, _⟩
      · exact ⟨_, _, _, rfl⟩
      · exact ⟨_, _, _, rfl⟩
    gi_wp2
    gi_region
    gi_wp2
    refine ⟨by simp, .inl ⟨_, _, rfl, run_takeDeferred (show W.drew.heap[D]? = _ from hK), ?_⟩⟩
    exact ⟨_, results_tmp2 rfl _ _ _, _, _, _, rfl, hB.drew.trans (belowK_b (w := w) (Nat.le_refl _) W.drew D _ _ (by simp at hD; omega) (show W.drew.heap[D]? = _ from hK) rfl rfl)⟩
  case stop =>
    rintro D c pre W _ _ h _
    exact h.elim

theorem cend_le : ∀ (n : Nat) (l : List UInt8) (i : Nat), ∀ x ∈ cods n l i, x.1 ≤ i + l.length
  | 0, _, _, x, h => by simp [cods] at h
  | n + 1, l, i, x, h => by
    cases hg : Uf.get l with
    | none => rw [cods_none n i hg] at h; simp at h
    | some p =>
      have := get_len hg
      rw [cods_some n i hg, List.mem_cons] at h
      rcases h with rfl | h
      · dsimp only; omega
      · have := cend_le n _ _ x h
        rw [List.length_drop] at this; omega
theorem cend_le2 (l : List UInt8) : cend (cods (l.length + 1) l 0) ≤ l.length := by
  unfold cend
  cases h : (cods (l.length + 1) l 0).getLast? with
  | none => simp
  | some x =>
    have := cend_le _ _ _ x (List.mem_of_getLast? h)
    simp; omega

theorem count_any (s : ByteArray) (w : World) (hs : s.size ≤ 4294967280) :
    Calls Try.prog 87 #[.string s] w fun e w' => ∃ k : Int, e = .returned (.int .i64 k) ∧ decide (k ≥ 0) = valid s.data.toList ∧ Below w.heap.size w w' := by
  have HC := Lib.hid (callsIn_wide.1 (codes_in s w hs))
  have hle := cend_le2 s.data.toList
  unfold valid
  rw [len_data] at hle ⊢
  generalize cend (cods (s.size + 1) s.data.toList 0) = c at *
  by_cases h : c = s.size
  · have t0 : decide ((c : Int) < (s.size : Int)) = false := decide_eq_false (by omega)
    have HV : Hid (decide (c = s.size) = true) := decide_eq_true h
    subst h
    go_enter Try.func87, Try.ntmps87
    go_wp2_with (go_at_call 101; refine HC.out.mono ?_; rintro e w1 ⟨p1, k1, c1, rfl, hb1⟩)
    go_ret
    exact ⟨_, rfl, by rw [HV.out]; simp, hb1⟩
  · have t0 : decide ((c : Int) < (s.size : Int)) = true := decide_eq_true (by omega)
    have HV : Hid (decide (c = s.size) = false) := decide_eq_false h
    have hlt : c < s.size := by omega
    clear h
    go_enter Try.func87, Try.ntmps87
    go_wp2_with (go_at_call 101; refine HC.out.mono ?_; rintro e w1 ⟨p1, k1, c1, rfl, hb1⟩)
    go_ret
    exact ⟨_, rfl, by rw [HV.out]; simp, hb1⟩

/-- utf.Valid: is a text codes' bytes? -/
theorem valid_any (s : ByteArray) (w : World) (hs : s.size ≤ 4294967280) :
    Calls Try.prog 56 #[.string s] w fun e w' => e = .returned (.bool (valid s.data.toList)) ∧ Below w.heap.size w w' := by
  have HC := Lib.hid (count_any s w hs)
  generalize valid s.data.toList = vd at *
  go_enter Try.func56, Try.ntmps56
  go_wp2_with (go_at_call 87; refine HC.out.mono ?_; rintro e w1 ⟨k, rfl, hk, hb1⟩)
  go_ret
  exact ⟨ret_b (by first | exact hk | simp), hb1⟩

end Go.Proofs.Ythbpkmmnoeikoaa
