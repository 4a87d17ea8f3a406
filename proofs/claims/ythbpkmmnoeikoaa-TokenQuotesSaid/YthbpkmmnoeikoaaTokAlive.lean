/-
  The law's alive() of layer 7: the document's examples hold. No condition.
-/
import Derived.Test.YthbpkmmnoeikoaaTokAll
import Derived.Test.YthbpkmmnoeikoaaTokQuote
import Derived.Test.YthbpkmmnoeikoaaTokRSame
import Derived.Test.YthbpkmmnoeikoaaUtfRef
import Derived.Deep.RegionHeld
namespace Go.Proofs.Ythbpkmmnoeikoaa
open Go Go.RowKit Go.Deep
set_option linter.unusedVariables false
set_option linter.unusedSimpArgs false

theorem alive_t1 (w : World) : Calls Try.prog 35 #[.string ⟨#[32, 45, 48, 44, 34, 92, 117, 100, 56, 51, 100, 92, 117, 100, 101, 48, 48, 34]⟩] w fun e w' => ∃ b c, e = .returned (.tuple #[.slice (some ⟨b, 0, none⟩) 4 c, .int .i64 18, .int .i64 0]) ∧
    (w'.cell? ⟨b, 0, none⟩ = some (.int .i64 8) ∧ w'.cell? ⟨b, 1, none⟩ = some (.int .i64 1) ∧ w'.cell? ⟨b, 2, none⟩ = some (.int .i64 3) ∧ w'.cell? ⟨b, 3, none⟩ = some (.string ⟨#[]⟩) ∧ w'.cell? ⟨b, 4, none⟩ = some (.int .i64 0)) ∧
    w'.cell? ⟨b, 10, none⟩ = some (.int .i64 7) ∧ w'.cell? ⟨b, 13, none⟩ = some (.string ⟨#[240, 159, 152, 128]⟩) ∧ Below w.heap.size w w' := by
  have hp : its 19 [32, 45, 48, 44, 34, 92, 117, 100, 56, 51, 100, 92, 117, 100, 101, 48, 48, 34] 0 =
    [(⟨8, 1, 3, [], 0⟩, 3, 0), (⟨6, 3, 4, [], 0⟩, 4, 0), (⟨7, 4, 18, [240, 159, 152, 128], 0⟩, 18, 0), (⟨0, 18, 18, [], 0⟩, 18, 0)] := by kernel_rfl
  refine (callsIn_wide.1 (all_in _ w (by decide) _ rfl)).mono ?_
  rintro e w' ⟨v, rfl, hv, hb⟩
  change World.ownsRow _ _ _ _ _ (good (its 19 [32, 45, 48, 44, 34, 92, 117, 100, 56, 51, 100, 92, 117, 100, 101, 48, 48, 34] 0)).length (tcells (good (its 19 [32, 45, 48, 44, 34, 92, 117, 100, 56, 51, 100, 92, 117, 100, 101, 48, 48, 34] 0))) at hv
  show ∃ b c, Ending.returned (.tuple #[_, .int .i64 (iend (its 19 [32, 45, 48, 44, 34, 92, 117, 100, 56, 51, 100, 92, 117, 100, 101, 48, 48, 34] 0) : Int), .int .i64 (ierr (its 19 [32, 45, 48, 44, 34, 92, 117, 100, 56, 51, 100, 92, 117, 100, 101, 48, 48, 34] 0))]) = _ ∧ _
  rw [hp] at hv ⊢
  have hg : good [((⟨8, 1, 3, [], 0⟩ : Tk.Tok), 3, (0 : Int)), (⟨6, 3, 4, [], 0⟩, 4, 0), (⟨7, 4, 18, [240, 159, 152, 128], 0⟩, 18, 0), (⟨0, 18, 18, [], 0⟩, 18, 0)] = [⟨8, 1, 3, [], 0⟩, ⟨6, 3, 4, [], 0⟩, ⟨7, 4, 18, [240, 159, 152, 128], 0⟩, ⟨0, 18, 18, [], 0⟩] := rfl
  rw [hg] at hv
  obtain ⟨p, c, rfl, hc⟩ := ToksV.of hv
  obtain ⟨b, rfl, c0⟩ := hc 0 (by decide)
  obtain ⟨b', hb', c1, c2, c3, c4, c5⟩ := hc 2 (by decide)
  cases hb'
  exact ⟨b, c, rfl, c0, c1, c4, hb⟩
theorem alive_t2 (w : World) : Calls Try.prog 33 #[.string ⟨#[49, 46, 53]⟩, .int .i64 0] w fun e w' => e = .returned (.tuple #[.agg #[.int .i64 0, .int .i64 0, .int .i64 0, .string ⟨#[]⟩, .int .i64 0], .int .i64 0, .int .i64 5]) ∧ Below w.heap.size w w' := by
  have hp : Tk.next [49, 46, 53] 0 = (Tk.zero, 0, 5) := by kernel_rfl
  refine (next_pos _ 0 w (by decide) (by decide)).mono ?_
  rintro e w' ⟨rfl, hb⟩
  refine ⟨?_, hb⟩
  · show Ending.returned (nextV (Tk.next [49, 46, 53] 0)) = _
    rw [hp]; rfl
theorem alive_t3 (w : World) : Calls Try.prog 33 #[.string ⟨#[34, 97, 92, 120, 34]⟩, .int .i64 0] w fun e w' => e = .returned (.tuple #[.agg #[.int .i64 0, .int .i64 0, .int .i64 0, .string ⟨#[]⟩, .int .i64 0], .int .i64 2, .int .i64 2]) ∧ Below w.heap.size w w' := by
  have hp : Tk.next [34, 97, 92, 120, 34] 0 = (Tk.zero, 2, 2) := by kernel_rfl
  refine (next_pos _ 0 w (by decide) (by decide)).mono ?_
  rintro e w' ⟨rfl, hb⟩
  refine ⟨?_, hb⟩
  · show Ending.returned (nextV (Tk.next [34, 97, 92, 120, 34] 0)) = _
    rw [hp]; rfl
theorem alive_t4 (w : World) : Calls Try.prog 38 #[.string ⟨#[97, 10]⟩] w fun e w' => e = .returned (.string ⟨#[34, 97, 92, 117, 48, 48, 48, 97, 34]⟩) ∧ Below w.heap.size w w' := by
  have hp : Tk.quote [97, 10] = [34, 97, 92, 117, 48, 48, 48, 97, 34] := by kernel_rfl
  refine (quote_any _ w (by decide)).mono ?_
  rintro e w' ⟨rfl, hb⟩
  refine ⟨?_, hb⟩
  show Ending.returned (str (Tk.quote [97, 10])) = _
  rw [hp]; rfl
theorem alive_t5 (x : ByteArray) (hx : x = ⟨#[240, 159, 152, 128]⟩) (w : World) : Calls Try.prog 63 #[.int .i64 128512] w fun e w' => ∃ v, e = .returned v ∧ BytesV w' v x.data.toList ∧ Below w.heap.size w w' := by
  have hp : putI 128512 = [240, 159, 152, 128] := by kernel_rfl
  have h := rput_any 128512 w
  rw [hp] at h
  subst hx
  exact h
theorem alive_t6 (v1 v2 : Value) (w : World) (x : List UInt8) (hl : x.length ≤ 4294967296) (h1 : BytesV w v1 x) (h2 : BytesV w v2 x) :
    Calls Try.prog 62 #[v1, v2] w fun e w' => e = .returned (.bool true) ∧ Below w.heap.size w w' := by
  have h := bytes_any _ _ _ _ w h1 h2 hl hl
  rw [decide_eq_true (rfl : x = x)] at h
  exact h

theorem cv_bytes2 (s : ByteArray) (W : World) (hs : s.size ≤ maxLen) : BytesV (W.alloc (cvBlk s W)).drew (.slice (some ⟨W.heap.size, 0, none⟩) s.size (cvCap s W)) s.data.toList := cv_bytes s W hs
theorem cv_below2 (s : ByteArray) (W : World) : Below W.heap.size W (W.alloc (cvBlk s W)).drew := cv_below s W
theorem s7 {w w' : World} {b : Nat} {u0 u1 u2 u3 u4 u5 u6 : Value} (hb : Below w.heap.size w w')
    (h : w.cell? ⟨b, 0, none⟩ = some u0 ∧ w.cell? ⟨b, 1, none⟩ = some u1 ∧ w.cell? ⟨b, 2, none⟩ = some u2 ∧ w.cell? ⟨b, 3, none⟩ = some u3 ∧ w.cell? ⟨b, 4, none⟩ = some u4 ∧ w.cell? ⟨b, 10, none⟩ = some u5 ∧ w.cell? ⟨b, 13, none⟩ = some u6) :
    w'.cell? ⟨b, 0, none⟩ = some u0 ∧ w'.cell? ⟨b, 1, none⟩ = some u1 ∧ w'.cell? ⟨b, 2, none⟩ = some u2 ∧ w'.cell? ⟨b, 3, none⟩ = some u3 ∧ w'.cell? ⟨b, 4, none⟩ = some u4 ∧ w'.cell? ⟨b, 10, none⟩ = some u5 ∧ w'.cell? ⟨b, 13, none⟩ = some u6 := by
  obtain ⟨h0, h1, h2, h3, h4, h5, h6⟩ := h
  exact ⟨cell_below hb h0, cell_below hb h1, cell_below hb h2, cell_below hb h3, cell_below hb h4, cell_below hb h5, cell_below hb h6⟩

set_option maxHeartbeats 4000000 in
set_option maxRecDepth 100000 in
theorem alive_any (w : World) : Calls Try.prog 32 #[] w fun e w' => e = .returned (.bool true) ∧ Below w.heap.size w w' := by
  obtain ⟨x, hx⟩ : ∃ x : ByteArray, x = ⟨#[240, 159, 152, 128]⟩ := ⟨_, rfl⟩
  have hxl : x.data.toList.length ≤ 4294967296 := by rw [hx]; decide
  have hxs : x.size ≤ maxLen := by rw [hx]; decide
  have H5 := Lib.hid (alive_t5 x hx)
  have H4 := Lib.hid alive_t4
  have hcv := cv_run x
  go_enter Try.func32, Try.ntmps32
  go_wp2_with fail
  refine (alive_t1 _).mono ?_
  rintro e w1 ⟨b, c, rfl, ⟨e0, e1, e2, e3, e4⟩, e5, e6, hb1⟩
  go_wp2_with fail
  refine (alive_t2 _).mono ?_
  rintro e w2 ⟨rfl, hb2⟩
  have hk2 : Below w1.heap.size w1 (w2.alloc (.cells #[.int .i64 0, .int .i64 0, .int .i64 0, .string ⟨#[]⟩, .int .i64 0] 52)) := hb2.alloc hb2.size _
  go_wp2_with fail
  refine (alive_t3 _).mono ?_
  rintro e w3 ⟨rfl, hb3⟩
  have hk3 : Below w1.heap.size w1 (w3.alloc (.cells #[.int .i64 0, .int .i64 0, .int .i64 0, .string ⟨#[]⟩, .int .i64 0] 52)) := (hk2.trans (hb3.mono hk2.size)).alloc (Nat.le_trans hk2.size hb3.size) _
  have f0 := cell_below hk3 e0
  have f1 := cell_below hk3 e1
  have f2 := cell_below hk3 e2
  have f3 := cell_below hk3 e3
  have f4 := cell_below hk3 e4
  have f5 := cell_below hk3 e5
  have f6 := cell_below hk3 e6
  rw [← hx] at f6
  have hb4 := hb1.trans (hk3.mono hb1.size)
  clear e0 e1 e2 e3 e4 e5 e6 hk2 hk3 hb2 hb3 hb1
  clear hx
  go_wp2_with fail
  generalize w3.alloc _ = W0 at *
  have hB0 : BytesV (W0.drew.drew.alloc (cvBlk x W0.drew)) (.slice (some ⟨W0.heap.size, 0, none⟩) x.size (cvCap x W0.drew)) x.data.toList := cv_bytes x W0.drew hxs
  go_region_held (fun w' => w'.cell? ⟨b, 0, none⟩ = some (.int .i64 8) ∧ w'.cell? ⟨b, 1, none⟩ = some (.int .i64 1) ∧ w'.cell? ⟨b, 2, none⟩ = some (.int .i64 3) ∧ w'.cell? ⟨b, 3, none⟩ = some (.string ⟨#[]⟩) ∧ w'.cell? ⟨b, 4, none⟩ = some (.int .i64 0) ∧ w'.cell? ⟨b, 10, none⟩ = some (.int .i64 7) ∧ w'.cell? ⟨b, 13, none⟩ = some (.string x))
    (first
      | exact ⟨f0, f1, f2, f3, f4, f5, f6⟩
      | exact s7 (cv_below x _) (by assumption)
      | exact s7 (by assumption) (by assumption))
    (first
      | (go_at_call 63; with_reducible refine (H5.out _).mono ?_; rintro e w4 ⟨v, rfl, hv, hb5⟩)
      | (go_at_call 62; first
          | (refine (alive_t6 _ _ _ _ hxl (hB0.below hb5) hv).mono ?_; rintro e w5 ⟨rfl, hb6⟩)
          | (with_reducible refine (alive_t6 _ _ _ _ hxl (cv_bytes2 x w4 hxs) (hv.below (cv_below2 x w4))).mono ?_; rintro e w5 ⟨rfl, hb6⟩))
      | (go_at_call 38; with_reducible refine (H4.out _).mono ?_; rintro e w6 ⟨rfl, hb7⟩))
  · go_wp2
    go_ret
    exact ⟨rfl, hb4.trans ((chain (chain (chain (chain ((Below.refl _ W0).drew) (cv_below x W0.drew)) hb5) hb6) hb7).mono hb4.size)⟩
  · go_wp2
    go_ret
    exact ⟨rfl, hb4.trans ((chain (chain (chain (chain ((Below.refl _ W0).drew) hb5) (cv_below2 x w4)) hb6) hb7).mono hb4.size)⟩

end Go.Proofs.Ythbpkmmnoeikoaa
